/-
  Layer 8 (inflate): so many bytes are copied.
-/
import Derived.Test.YtddifndfppilkaaGreatInfS
import Derived.Test.YtddifndfppilkaaGreatInfB
import Derived.Test.YtddifndfppilkaaGreatReg
import Derived.Deep.RegionHeld3
namespace Go.Proofs.YtddifndfppilkaaGreat
open Go.RowKit Go.Mz
set_option linter.unusedVariables false
set_option linter.unusedSimpArgs false
set_option maxRecDepth 100000

def ResR (r : Nat ⊕ (Nat × List UInt8)) (x p' : Nat) (out' : List UInt8) : Prop :=
  match r with
  | .inl e => x = e ∧ e ≠ 0
  | .inr (q, o) => x = 0 ∧ p' = q ∧ out' = o
theorem copyF_snoc (d n : Nat) (out : List UInt8) : copyF d (n + 1) out = copyF d n out ++ [(copyF d n out).getD ((copyF d n out).length - d) 0] := by
  induction n generalizing out with
  | zero => rfl
  | succ n ih => rw [copyF, ih]; rfl
theorem copyF_len (d n : Nat) (out : List UInt8) : (copyF d n out).length = out.length + n := by
  induction n generalizing out with
  | zero => rfl
  | succ n ih => rw [copyF, ih]; simp; omega
theorem distsB_ok : ∀ b ∈ distsB, b.1 ≤ 100000 ∧ b.2 ≤ 13 := by decide
theorem distsB_pos : ∀ b ∈ distsB, 1 ≤ b.1 := by decide
theorem lensB_ok : ∀ b ∈ lensB, b.1 ≤ 100000 ∧ b.2 ≤ 13 := by decide
theorem numberF_pos {t : List Nat} {i p q d : Nat} (h : numberF t distsB i p = .inr (q, d)) : 1 ≤ d := by
  rw [numberF] at h
  cases e : distsB[i]? with
  | none => rw [e] at h; cases h
  | some b =>
    rw [e] at h
    simp only at h
    have := distsB_pos b (List.mem_of_getElem? e)
    split at h
    · cases h
    · have := Sum.inr.inj h
      have := (Prod.mk.inj this).2
      omega
theorem bv_cell (out : List UInt8) {i : Nat} (h : i < out.length) : (out.map bv)[i]? = some (bv (out.getD i 0)) := by
  rw [List.getElem?_map, List.getElem?_eq_getElem h, List.getD_eq_getElem?_getD, List.getElem?_eq_getElem h]; rfl

set_option maxHeartbeats 40000000 in
theorem copy_any {w0 w : World} {S Rb B : Nat} {bs : List UInt8} {p : Nat} {out : List UInt8} {most : Nat} {W : List (List Nat)} {vl : Value} {F : SProp} (h : St w0 w (stm S Rb bs p out most * (bkS B W * (own 129 2 vl 30 (bas distsB) * F))))
    (hom : out.length ≤ most) (hm : most ≤ 10000000000000) (hW : W.length ≤ 1000) (n : Nat) (hn : n ≤ 1000000) :
    Calls Tryz.prog 55 #[.pointer (some ⟨S, 0, none⟩), .pointer (some ⟨B, 0, none⟩), vl, .int .i64 n] w fun e w' => ∃ (x p' : Nat) (out' : List UInt8), e = .returned (.int .i64 x) ∧ ResR (copyR (bitsL true bs) W most n p out) x p' out' ∧ out'.length ≤ most ∧
      St w0 w' (stm S Rb bs p' out' most * (bkS B W * (own 129 2 vl 30 (bas distsB) * F))) := by
  obtain ⟨ao, co, h1⟩ := stm_open h
  have c0 := h1.cell 0 rfl
  have hp := (rdr_open (h1.right)).2.1
  have h2 := h1.perm (show _ = bkS B W * (rdr Rb bs p true * (blk S (.cells #[.pointer (some ⟨Rb, 0, none⟩), .slice ao out.length co, .int .i64 (most : Int)] 50) * (own 5 1 (.slice ao out.length co) out.length (out.map bv) * (own 129 2 vl 30 (bas distsB) * F)))) by ac_rfl)
  obtain ⟨al, cl, rfl⟩ := (h1.right.right.right.right.reads).sub
  have HC := Lib.hid (bread_any h2 hp)
  have hback : ∀ w' p', St w0 w' (bkS B W * (rdr Rb bs p' true * (blk S (.cells #[.pointer (some ⟨Rb, 0, none⟩), .slice ao out.length co, .int .i64 (most : Int)] 50) * (own 5 1 (.slice ao out.length co) out.length (out.map bv) * (own 129 2 (.slice al 30 cl) 30 (bas distsB) * F))))) →
      St w0 w' (stm S Rb bs p' out most * (bkS B W * (own 129 2 (.slice al 30 cl) 30 (bas distsB) * F))) := fun w' p' h => stm_shut (h.perm (by ac_rfl))
  have HBACK := Lib.hid hback; clear hback
  have hlen := rdW_len W ((bitsL true bs).drop p) []
  have HR := Lib.hid (show copyR (bitsL true bs) W most n p out = match rdW W [] ((bitsL true bs).drop p) with
    | (_, .inr e) => .inl e
    | (k, .inl v) => (match numberF (bitsL true bs) distsB v (p + k) with
      | .inl e => .inl e
      | .inr (q, d) => if out.length < d then .inl 3 else if most < out.length + n then .inl 8 else .inr (q, copyF d n out)) from rfl)
  generalize rdW W [] ((bitsL true bs).drop p) = r at *
  obtain ⟨k, r⟩ := r
  clear h h1 h2
  go_enter Tryz.func55, Tryz.ntmps55
  go_wp2_with fail
  refine HC.out.mono ?_
  rintro e w2 ⟨z, x, p1, rfl, hrd, h3⟩
  have h4 := HBACK.out _ _ h3
  clear h3 HC
  cases r with
  | inr er =>
    have her := hlen.2.2.2.2 er rfl
    obtain ⟨rfl, hx⟩ := hrd
    simp only at hx HR
    subst hx
    have hx2 : ¬ (x : Int) = 0 := by omega
    have H4 := Lib.hid h4; clear h4 hlen HBACK
    go_wp2_with fail
    go_ret
    exact ⟨x, p + k, out, rfl, by rw [HR.out]; exact ⟨rfl, by omega⟩, hom, H4.out⟩
  | inl i =>
    have hi := (hlen.2.2.2.1 i rfl).2
    obtain ⟨rfl, hx, hz⟩ := hrd
    subst hx hz
    simp only at HR h4
    have C := number_any (h4.perm (show _ = stm S Rb bs (p + k) out most * (own 129 2 (.slice al 30 cl) 30 (bas distsB) * (bkS B W * F)) by ac_rfl)) rfl distsB_ok i (by omega)
    have HPOS := Lib.hid (fun q d => numberF_pos (t := bitsL true bs) (i := i) (p := p + k) (q := q) (d := d))
    have HC := Lib.hid C; clear C h4 hlen HBACK
    generalize numberF (bitsL true bs) distsB i (p + k) = r at *
    go_wp2_with fail
    refine HC.out.mono ?_
    rintro e w3 ⟨z, x, p2, rfl, hnr, h5⟩
    have h5 := h5.perm (show _ = stm S Rb bs p2 out most * (bkS B W * (own 129 2 (.slice al 30 cl) 30 (bas distsB) * F)) by ac_rfl)
    clear HC
    cases r with
    | inl er =>
      obtain ⟨hx, hne⟩ := hnr
      subst hx
      simp only at HR
      have hx2 : ¬ (x : Int) = 0 := by omega
      have H5 := Lib.hid h5; clear h5
      go_wp2_with fail
      go_ret
      exact ⟨x, p2, out, rfl, by rw [HR.out]; exact ⟨rfl, hne⟩, hom, H5.out⟩
    | inr qd =>
      obtain ⟨q, d⟩ := qd
      obtain ⟨hx, hq, hz⟩ := hnr
      subst hx hq hz
      simp only at HR
      have hd1 := HPOS.out p2 d rfl
      obtain ⟨ao, co, h6⟩ := stm_open h5
      have c0 := h6.cell 0 rfl
      have c1 := h6.cell 1 rfl
      have c2 := h6.cell 2 rfl
      have H5 := Lib.hid h5; clear h5 h6
      by_cases hd : out.length < d
      · have hd2 : (out.length : Int) < d := by omega
        rw [if_pos hd] at HR
        go_wp2_with fail
        go_ret
        exact ⟨3, p2, out, rfl, by rw [HR.out]; exact ⟨rfl, by decide⟩, hom, H5.out⟩
      have hd2 : ¬ (out.length : Int) < d := by omega
      rw [if_neg hd] at HR
      by_cases hlim : most < out.length + n
      · have hl2 : (most : Int) - out.length < n := by omega
        rw [if_pos hlim] at HR
        go_wp2_with fail
        go_quiet (fail)
        have h7 := H5.out.drewN nq
        generalize w3.drewN nq = w7 at *
        have H7 := Lib.hid h7; clear h7 H5
        go_wp2_with fail
        go_ret
        exact ⟨8, p2, out, rfl, by rw [HR.out]; exact ⟨rfl, by decide⟩, hom, H7.out⟩
      have hl2 : ¬ (most : Int) - out.length < n := by omega
      rw [if_neg hlim] at HR
      go_wp2_with fail
      go_quiet (fail)
      have h7 := H5.out.drewN nq
      clear c0 c1 c2
      generalize w3.drewN nq = w7 at *
      have H7 := Lib.hid h7; clear h7 H5
      go_wp2_with fail
      go_loopw [57] (fun vi wr => ∃ (j : Nat), j ≤ n ∧ vi = .int .i64 j ∧ St w0 wr (stm S Rb bs p2 (copyF d j out) most * (bkS B W * (own 129 2 (.slice al 30 cl) 30 (bas distsB) * F)))) (fun vi _ => n - (intOf vi).toNat)
      case atStart => exact ⟨0, by omega, rfl, H7.out⟩
      case round =>
        clear H7
        obtain ⟨j, hj, rfl, hst⟩ := hrel
        by_cases hjn : j < n
        · have hcl := copyF_len d j out
          have HSN := Lib.hid (copyF_snoc d j out)
          generalize copyF d j out = o at *
          obtain ⟨ao, co, h6⟩ := stm_open hst
          have c1 := h6.cell 1 rfl
          obtain ⟨go, rfl⟩ := own_at (h6.right.right) (by omega)
          have hbc := h6.right.right.own_cell (bv_cell o (i := o.length - d) (by omega))
          have hjj : (j : Int) < n := by omega
          have hL5 : StL w0 wr [own 5 1 (.slice (some ⟨go, 0, none⟩) o.length co) o.length (o.map bv), blk S (.cells #[.pointer (some ⟨Rb, 0, none⟩), .slice (some ⟨go, 0, none⟩) o.length co, .int .i64 (most : Int)] 50), rdr Rb bs p2 true * (bkS B W * (own 129 2 (.slice al 30 cl) 30 (bas distsB) * F))] := h6.perm (by simp only [prodL]; rw [star_comm _ emp, emp_star]; ac_rfl)
          have HL5 := Lib.hid hL5; clear hL5 h6 hst
          generalize o.getD (o.length - d) 0 = ch at *
          have hsub : IntKind.i64.wrap ((o.length - d : Nat) : Int) = ((o.length - d : Nat) : Int) := IntWalk.i64_in _ (by omega)
          have hod0 : 0 ≤ (((o.length - d : Nat) : Nat) : Int) := by omega
          have hod1 : ((o.length - d : Nat) : Int) < o.length := by omega
          have holen : o.length ≤ 10000000000000 := by omega
          have hsub2 : ((o.length : Int) - d) = ((o.length - d : Nat) : Int) := by omega
          have HCL := Lib.hid hcl; clear hcl
          have hlt9 : o.length - d < o.length := by omega
          generalize o.length - d = od at *
          simp only [bv] at hbc
          go_upto_region 13 with (fail)
          refine wp_region_noPanic ?_
          refine region_till (S := fun w' : World => w'.cell? ⟨S, 1, none⟩ = some (.slice (some ⟨go, 0, none⟩) o.length co)) (k := 20) (by kernel_rfl) ?_
          have hS : (fun w' : World => w'.cell? ⟨S, 1, none⟩ = some (.slice (some ⟨go, 0, none⟩) o.length co)) wr.drew := c1
          refine till_take0 (i := 0) (oi := ?_) (v := ?_) ?_ (by kernel_rfl) (by kernel_rfl) (by kernel_rfl) (by decide) (fun _ _ _ h => h.elim) (by assumption) (.inl ⟨?_, fun w => ?_⟩) ?_
          rotate_left 2
          · (simp only [List.getElem?_toArray, List.getElem?_cons_succ, List.getElem?_cons_zero]; rfl)
          · rfl
          · (go_simp; try with_reducible rfl)
          simp only [Act.put, List.setIfInBounds_toArray, List.set_cons_zero, List.set_cons_succ]
          refine till_take0 (i := 1) (oi := ?_) (v := ?_) ?_ (by kernel_rfl) (by kernel_rfl) (by kernel_rfl) (by decide) (fun _ _ _ h => h.elim) (by assumption) (.inl ⟨?_, fun w => ?_⟩) ?_
          rotate_left 2
          · (simp only [List.getElem?_toArray, List.getElem?_cons_succ, List.getElem?_cons_zero]; rfl)
          · rfl
          · (go_simp; try with_reducible rfl)
          simp only [Act.put, List.setIfInBounds_toArray, List.set_cons_zero, List.set_cons_succ]
          refine till_take0 (i := 2) (oi := ?_) (v := ?_) ?_ (by kernel_rfl) (by kernel_rfl) (by kernel_rfl) (by decide) (fun _ _ _ h => h.elim) (by assumption) (.inl ⟨?_, fun w => ?_⟩) ?_
          rotate_left 2
          · (simp only [List.getElem?_toArray, List.getElem?_cons_succ, List.getElem?_cons_zero]; rfl)
          · rfl
          · (go_simp; try with_reducible rfl)
          simp only [Act.put, List.setIfInBounds_toArray, List.set_cons_zero, List.set_cons_succ]
          refine till_take0 (i := 3) (oi := ?_) (v := ?_) ?_ (by kernel_rfl) (by kernel_rfl) (by kernel_rfl) (by decide) (fun _ _ _ h => h.elim) (by assumption) (.inl ⟨?_, fun w => ?_⟩) ?_
          rotate_left 2
          · (simp only [List.getElem?_toArray, List.getElem?_cons_succ, List.getElem?_cons_zero]; rfl)
          · rfl
          · (go_simp; try with_reducible rfl)
          simp only [Act.put, List.setIfInBounds_toArray, List.set_cons_zero, List.set_cons_succ]
          refine till_take (i := 4) (oi := ?_) (v := ?_) ?_ (by kernel_rfl) (by kernel_rfl) (by kernel_rfl) (by kernel_rfl) (by kernel_rfl) (fun _ _ _ h => h.elim) (by assumption) (.inl ⟨?_, fun w hSw => ?_⟩) ?_
          rotate_left 2
          · (simp only [List.getElem?_toArray, List.getElem?_cons_succ, List.getElem?_cons_zero]; rfl)
          · rfl
          · ((try dsimp only at hSw); go_simp; try with_reducible rfl)
          simp only [Act.put, List.setIfInBounds_toArray, List.set_cons_zero, List.set_cons_succ]
          refine till_take0 (i := 5) (oi := ?_) (v := ?_) ?_ (by kernel_rfl) (by kernel_rfl) (by kernel_rfl) (by decide) (fun _ _ _ h => h.elim) (by assumption) (.inl ⟨?_, fun w => ?_⟩) ?_
          rotate_left 2
          · (simp only [List.getElem?_toArray, List.getElem?_cons_succ, List.getElem?_cons_zero]; rfl)
          · rfl
          · (go_simp; try with_reducible rfl)
          simp only [Act.put, List.setIfInBounds_toArray, List.set_cons_zero, List.set_cons_succ]
          refine till_take0 (i := 6) (oi := ?_) (v := ?_) ?_ (by kernel_rfl) (by kernel_rfl) (by kernel_rfl) (by decide) (fun _ _ _ h => h.elim) (by assumption) (.inl ⟨?_, fun w => ?_⟩) ?_
          rotate_left 2
          · (simp only [List.getElem?_toArray, List.getElem?_cons_succ, List.getElem?_cons_zero]; rfl)
          · rfl
          · (go_simp; try with_reducible rfl)
          simp only [Act.put, List.setIfInBounds_toArray, List.set_cons_zero, List.set_cons_succ]
          refine till_take0 (i := 7) (oi := ?_) (v := ?_) ?_ (by kernel_rfl) (by kernel_rfl) (by kernel_rfl) (by decide) (fun _ _ _ h => h.elim) (by assumption) (.inl ⟨?_, fun w => ?_⟩) ?_
          rotate_left 2
          · (simp only [List.getElem?_toArray, List.getElem?_cons_succ, List.getElem?_cons_zero]; rfl)
          · rfl
          · (go_simp; try with_reducible rfl)
          simp only [Act.put, List.setIfInBounds_toArray, List.set_cons_zero, List.set_cons_succ]
          refine till_take (i := 8) (oi := ?_) (v := ?_) ?_ (by kernel_rfl) (by kernel_rfl) (by kernel_rfl) (by kernel_rfl) (by kernel_rfl) (fun _ _ _ h => h.elim) (by assumption) (.inl ⟨?_, fun w hSw => ?_⟩) ?_
          rotate_left 2
          · (simp only [List.getElem?_toArray, List.getElem?_cons_succ, List.getElem?_cons_zero]; rfl)
          · rfl
          · ((try dsimp only at hSw); go_simp; try with_reducible rfl)
          simp only [Act.put, List.setIfInBounds_toArray, List.set_cons_zero, List.set_cons_succ]
          refine till_take0 (i := 9) (oi := ?_) (v := ?_) ?_ (by kernel_rfl) (by kernel_rfl) (by kernel_rfl) (by decide) (fun _ _ _ h => h.elim) (by assumption) (.inl ⟨?_, fun w => ?_⟩) ?_
          rotate_left 2
          · (simp only [List.getElem?_toArray, List.getElem?_cons_succ, List.getElem?_cons_zero]; rfl)
          · rfl
          · (go_simp; try with_reducible rfl)
          simp only [Act.put, List.setIfInBounds_toArray, List.set_cons_zero, List.set_cons_succ]
          refine till_take0 (i := 10) (oi := ?_) (v := ?_) ?_ (by kernel_rfl) (by kernel_rfl) (by kernel_rfl) (by decide) (fun _ _ _ h => h.elim) (by assumption) (.inl ⟨?_, fun w => ?_⟩) ?_
          rotate_left 2
          · (simp only [List.getElem?_toArray, List.getElem?_cons_succ, List.getElem?_cons_zero]; rfl)
          · rfl
          · (go_simp; try with_reducible rfl)
          simp only [Act.put, List.setIfInBounds_toArray, List.set_cons_zero, List.set_cons_succ]
          refine till_take0 (i := 11) (oi := ?_) (v := ?_) ?_ (by kernel_rfl) (by kernel_rfl) (by kernel_rfl) (by decide) (fun _ _ _ h => h.elim) (by assumption) (.inl ⟨?_, fun w => ?_⟩) ?_
          rotate_left 2
          · (simp only [List.getElem?_toArray, List.getElem?_cons_succ, List.getElem?_cons_zero]; rfl)
          · rfl
          · (go_simp; try with_reducible rfl)
          simp only [Act.put, List.setIfInBounds_toArray, List.set_cons_zero, List.set_cons_succ]
          refine till_take (i := 12) (oi := ?_) (v := ?_) ?_ (by kernel_rfl) (by kernel_rfl) (by kernel_rfl) (by kernel_rfl) (by kernel_rfl) (fun _ _ _ h => h.elim) (by assumption) (.inl ⟨?_, fun w hSw => ?_⟩) ?_
          rotate_left 2
          · (simp only [List.getElem?_toArray, List.getElem?_cons_succ, List.getElem?_cons_zero]; rfl)
          · rfl
          · ((try dsimp only at hSw); go_simp; try with_reducible rfl)
          simp only [Act.put, List.setIfInBounds_toArray, List.set_cons_zero, List.set_cons_succ]
          refine till_take0 (i := 13) (oi := ?_) (v := ?_) ?_ (by kernel_rfl) (by kernel_rfl) (by kernel_rfl) (by decide) (fun _ _ _ h => h.elim) (by assumption) (.inl ⟨?_, fun w => ?_⟩) ?_
          rotate_left 2
          · (simp only [List.getElem?_toArray, List.getElem?_cons_succ, List.getElem?_cons_zero]; rfl)
          · rfl
          · (go_simp; try with_reducible rfl)
          simp only [Act.put, List.setIfInBounds_toArray, List.set_cons_zero, List.set_cons_succ]
          refine till_take0 (i := 14) (oi := ?_) (v := ?_) ?_ (by kernel_rfl) (by kernel_rfl) (by kernel_rfl) (by decide) (fun _ _ _ h => h.elim) (by assumption) (.inl ⟨?_, fun w => ?_⟩) ?_
          rotate_left 2
          · (simp only [List.getElem?_toArray, List.getElem?_cons_succ, List.getElem?_cons_zero]; rfl)
          · rfl
          · (go_simp; try with_reducible rfl)
          simp only [Act.put, List.setIfInBounds_toArray, List.set_cons_zero, List.set_cons_succ]
          refine till_take0 (i := 15) (oi := ?_) (v := ?_) ?_ (by kernel_rfl) (by kernel_rfl) (by kernel_rfl) (by decide) (fun _ _ _ h => h.elim) (by assumption) (.inl ⟨?_, fun w => ?_⟩) ?_
          rotate_left 2
          · (simp only [List.getElem?_toArray, List.getElem?_cons_succ, List.getElem?_cons_zero]; rfl)
          · rfl
          · (go_simp; try with_reducible rfl)
          simp only [Act.put, List.setIfInBounds_toArray, List.set_cons_zero, List.set_cons_succ]
          refine till_take0 (i := 16) (oi := ?_) (v := ?_) ?_ (by kernel_rfl) (by kernel_rfl) (by kernel_rfl) (by decide) (fun _ _ _ h => h.elim) (by assumption) (.inl ⟨?_, fun w => ?_⟩) ?_
          rotate_left 2
          · (simp only [List.getElem?_toArray, List.getElem?_cons_succ, List.getElem?_cons_zero]; rfl)
          · rfl
          · (go_simp; try with_reducible rfl)
          simp only [Act.put, List.setIfInBounds_toArray, List.set_cons_zero, List.set_cons_succ]
          refine till_one (i := 17) (by kernel_rfl) ?_
          refine wpOp_step (by rfl) fun K hK => ?_
          go_simp
          refine hK _ _ ⟨fun e => hS, ?_⟩
          clear hK K
          refine till_one (i := 18) (by kernel_rfl) ?_
          refine wpOp_step (by rfl) fun K hK => ?_
          go_simp
          have hL6 := (HL5.out.alloc rfl (.cells #[.int .u8 (ch.toNat : Int)] 5)).drew
          simp only [List.cons_append, List.nil_append] at hL6
          have c6 := hL6.cell (i := 1) rfl 1 rfl
          refine hK _ _ ⟨fun e => c6, ?_⟩
          clear hK K hS c1 hbc
          generalize hB6 : wr.heap.size = b6 at *
          generalize hW6 : (wr.alloc (Obj.cells #[Value.int .u8 (ch.toNat : Int)] 5)).drew = W6 at *
          clear hB6 hW6
          refine till_one (i := 19) (by kernel_rfl) ?_
          refine wpOp_step (by rfl) fun K hK => ?_
          refine step_append_L elemBytes rfl _ _ rfl rfl hL6 0 rfl (x := .slice (some ⟨b6, 0, none⟩) 1 1) rfl (m := 1) (news := [bv ch]) (hL6.one (i := 3) rfl) (by intro u hu; simp at hu; subst hu; rfl) (by unfold maxLen; omega) (by omega) fun v' W7 h7 _ => ?_
          have c7 := h7.cell (i := 1) rfl 1 rfl
          refine hK _ _ ⟨fun e => c7, ?_⟩
          clear hK K
          simp only [List.set_cons_zero] at h7
          simp only [Act.put, List.setIfInBounds_toArray, List.set_cons_zero, List.set_cons_succ]
          refine till_one (i := 20) (by kernel_rfl) ?_
          refine wpOp_step (by rfl) fun K hK => ?_
          go_simp
          refine hK _ _ ⟨fun e => (by cases e), ?_⟩
          clear hK K
          refine till_one (i := 21) (by kernel_rfl) ?_
          refine wpOp_step (by rfl) fun K hK => ?_
          go_simp
          refine hK _ _ ⟨fun e => (by cases e), ?_⟩
          clear hK K
          obtain ⟨a7, c7', rfl⟩ := (h7.reads (i := 0) rfl).sub
          have e0 := h7.cell (i := 1) rfl 1 rfl
          have f0 := h7.free (i := 1) rfl 1
          have h8 := h7.set (i := 1) rfl 1 (.slice a7 (o.length + 1 : Nat) c7')
          refine till_one (i := 22) (by kernel_rfl) ?_
          refine wpOp_step (by rfl) fun K hK => ?_
          go_simp
          refine hK _ _ ⟨fun e => (by cases e), ?_⟩
          clear hK K e0 f0
          refine ⟨by kernel_rfl, NoPanic.normal ?_⟩
          simp only [List.set_cons_zero, List.set_cons_succ, List.setIfInBounds_toArray] at h8
          generalize W7.setCell ⟨S, 1, none⟩ (.slice a7 (o.length + 1 : Nat) c7') = W8 at *
          have h9 : St w0 W8 (stm S Rb bs p2 (o ++ [ch]) most * (bkS B W * (own 129 2 (.slice al 30 cl) 30 (bas distsB) * F))) := by
            refine stm_shut (v := .slice a7 (o.length + 1 : Nat) c7') ?_
            have e1 : (o ++ [ch]).length = o.length + 1 := by simp
            have e2 : (o ++ [ch]).map bv = o.map bv ++ [bv ch] := by simp
            rw [e1, e2]
            have h10 : St w0 W8 (own 5 1 (.slice a7 (o.length + 1) c7') (o.length + 1) (o.map bv ++ [bv ch]) * (blk S (.cells #[.pointer (some ⟨Rb, 0, none⟩), .slice a7 (o.length + 1) c7', .int .i64 (most : Int)] 50) * ((rdr Rb bs p2 true * (bkS B W * (own 129 2 (.slice al 30 cl) 30 (bas distsB) * F))) * (blk b6 (.cells #[.int .u8 (ch.toNat : Int)] 5) * emp)))) := h8
            have h11 := h10.perm (show _ = blk b6 (.cells #[.int .u8 (ch.toNat : Int)] 5) * (emp * (blk S (.cells #[.pointer (some ⟨Rb, 0, none⟩), .slice a7 (o.length + 1) c7', .int .i64 (most : Int)] 50) * (rdr Rb bs p2 true * (own 5 1 (.slice a7 (o.length + 1) c7') (o.length + 1) (o.map bv ++ [bv ch]) * (bkS B W * (own 129 2 (.slice al 30 cl) 30 (bas distsB) * F)))))) by ac_rfl)
            exact h11.right.right
          rw [← HSN.out] at h9
          have H9 := Lib.hid h9; clear h9 h8 h7 hL6 c6 c7
          go_wp2_with fail
          exact ⟨⟨j + 1, by omega, by go_num, H9.out⟩, by simp [intOf]; omega⟩
        · obtain rfl : j = n := by omega
          have hcl := copyF_len d j out
          have HST := Lib.hid hst; clear hst
          go_wp2_with fail
          go_ret
          exact ⟨0, p2, copyF d j out, rfl, by rw [HR.out]; exact ⟨rfl, rfl, rfl⟩, by omega, HST.out⟩
end Go.Proofs.YtddifndfppilkaaGreat
