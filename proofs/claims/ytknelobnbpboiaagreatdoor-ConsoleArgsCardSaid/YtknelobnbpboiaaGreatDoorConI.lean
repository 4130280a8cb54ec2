/-
  Layer 28 (console): a row's samples are told.
-/
import Derived.Test.YtknelobnbpboiaaGreatDoorConH
import Derived.BigQuiet
import Derived.Deep.MidRow
namespace Go.Proofs.YtknelobnbpboiaaGreatDoor
open Go.RowKit Go.Mz
set_option linter.unusedVariables false
set_option linter.unusedSimpArgs false
set_option maxRecDepth 100000

theorem elemSt : ElemT Tryz.prog 47 9 1 16 (.string ⟨#[]⟩) :=
  ⟨Tryz.underlying47, info_parts (by kernel_rfl), rfl, by decide⟩
def rowT (k : Nat) : List Value := if k = 0 then [] else if k = 1 then [.string ⟨#[55]⟩] else [.string ⟨#[55]⟩, .string ⟨#[56]⟩]
theorem exec_load_mid {P : Program} {w : World} {o : Oper} {a : Act} (ty : TypeId) (x : Operand) (ho : o.op = .load ty x) {b k : Nat} {cs : Array Value} (hc : w.rangeAt b k cs.toList) (hx : a.eval x = .pointer (some ⟨b, k, none⟩)) {d : TypeDesc}
    (hu : P.underlying ty = some d) (hd : d.isRow = true) (hi : (P.info? ty).map (·.size) = some cs.size) : (execOp a.eval o).run P w = .ok (.value (.agg cs)) w := by
  unfold execOp
  simp only [ho, hx, Sem.run_bind, Sem.run_pure, Result.andThen_ok, run_loadAt_mid w b k ty cs.toList d hc hu hd hi]
set_option maxHeartbeats 40000000 in
theorem row_any {w0 w : World} {b x n y m g c : Nat} {lw : Bool} {f : Value} {out : List UInt8} {F : SProp}
    (h : St w0 w (sesB b (.slice (some ⟨x, 0, none⟩) 1 n) lw f out * (own 95 7 (.slice (some ⟨x, 0, none⟩) 1 n) 1 (imgC (.slice (some ⟨y, 0, none⟩) 2 m)).toList * (own 84 1 (.slice (some ⟨y, 0, none⟩) 2 m) 2 [.int .u32 7, .int .u32 8] * (own 3 1 (.slice (some ⟨g, 0, none⟩) 2 c) 2 [.int .i64 0, .int .i64 0] * F))))) :
    Calls Tryz.prog 33 #[.pointer (some ⟨b, 0, none⟩), .slice (some ⟨g, 0, none⟩) 2 c] w fun e w' => e = .returned (.tuple #[.string ⟨#[55, 32, 56]⟩, .int .i64 0]) ∧
      St w0 w' (sesB b (.slice (some ⟨x, 0, none⟩) 1 n) lw f out * F) := by
  obtain ⟨p, q, hp, h⟩ := sesB_open h
  obtain ⟨B, hB⟩ : ∃ B, B = blk b (sesO (.slice (some ⟨x, 0, none⟩) 1 n) lw f p q) * (own 5 1 q out.length (out.map bC) * (own 95 7 (.slice (some ⟨x, 0, none⟩) 1 n) 1 (imgC (.slice (some ⟨y, 0, none⟩) 2 m)).toList * (own 84 1 (.slice (some ⟨y, 0, none⟩) 2 m) 2 [.int .u32 7, .int .u32 8] * (own 3 1 (.slice (some ⟨g, 0, none⟩) 2 c) 2 [.int .i64 0, .int .i64 0] * F)))) := ⟨_, rfl⟩
  have hm2 : 2 ≤ m := by
    obtain ⟨_, ⟨e, _⟩ | ⟨g', c', cur, e, h2, _⟩⟩ := (h.right.right.right).own_split
    · cases e
    · cases e; exact h2
  rw [← hB] at h
  have hX : ∀ (w' : World) (G : SProp), St w0 w' (G * B) → w'.cell? ⟨b, 0, none⟩ = some (.slice (some ⟨x, 0, none⟩) 1 n) ∧ w'.cell? ⟨x, 1, none⟩ = some (.int .i64 1) ∧ w'.cell? ⟨g, 0, none⟩ = some (.int .i64 0) ∧ w'.cell? ⟨g, 1, none⟩ = some (.int .i64 0) := fun w' G h' => by
    rw [hB] at h'
    have h2 := h'.right
    have h4 := h2.right.right
    have h5 := h4.right.right
    exact ⟨h2.cell 0 rfl, own_cellS h4 rfl, h5.own_cell (i := 0) rfl, h5.own_cell (i := 1) rfl⟩
  have hR : ∀ (w' : World) (G : SProp), St w0 w' (G * B) → w'.rangeAt x 0 (imgC (.slice (some ⟨y, 0, none⟩) 2 m)).toList := fun w' G h' => by
    rw [hB] at h'
    have h4 := h'.right.right.right
    intro j u hu
    rw [Nat.zero_add]
    exact own_cellS h4 hu
  have hU : ∀ (w' : World) (G : SProp), St w0 w' (G * B) → w'.cell? ⟨y, 0, none⟩ = some (.int .u32 7) ∧ w'.cell? ⟨y, 1, none⟩ = some (.int .u32 8) := fun w' G h' => by
    rw [hB] at h'
    have h4 := h'.right.right.right.right
    exact ⟨h4.own_cell (i := 0) rfl, h4.own_cell (i := 1) rfl⟩
  have hE : ∀ (w' : World) (G : SProp), St w0 w' (G * B) → St w0 w' (sesB b (.slice (some ⟨x, 0, none⟩) 1 n) lw f out * F) := fun w' G h' => by
    rw [hB] at h'
    have h9 := h'.right.perm (show _ = (blk b (sesO (.slice (some ⟨x, 0, none⟩) 1 n) lw f p q) * (own 5 1 q out.length (out.map bC) * F)) * (own 95 7 (.slice (some ⟨x, 0, none⟩) 1 n) 1 (imgC (.slice (some ⟨y, 0, none⟩) 2 m)).toList * (own 84 1 (.slice (some ⟨y, 0, none⟩) 2 m) 2 [.int .u32 7, .int .u32 8] * own 3 1 (.slice (some ⟨g, 0, none⟩) 2 c) 2 [.int .i64 0, .int .i64 0])) by ac_rfl)
    exact sesB_shut hp h9.left
  have HX := Lib.hid hX; have HE := Lib.hid hE; have HR := Lib.hid hR; have HU := Lib.hid hU
  have H := Lib.hid (h.perm (emp_star _).symm)
  clear hX hE hR hU h hB
  obtain ⟨f0, f1, g0, g1⟩ := HX.out _ _ H.out
  go_enter Tryz.func33, Tryz.ntmps33
  go_upto_region 1 with (fail)
  go_quiet (fail)
  have h1 := H.out.drewN nq
  generalize w.drewN nq = W1 at *
  clear f0 f1 g0 g1 H
  obtain ⟨f0, f1, g0, g1⟩ := HX.out _ _ h1
  go_upto_region 3 with (fail)
  clear f0 f1 g0 g1
  have hd := h1.drew
  refine wp_region_noPanic ?_
  refine region_till (S := fun w' : World => ∃ G, St w0 w' (G * B)) (k := 10) (by kernel_rfl) ?_
  have hS : (fun w' : World => ∃ G, St w0 w' (G * B)) W1.drew := ⟨_, hd⟩
  refine till_take0 (i := 0) (oi := ?_) (v := ?_) ?_ (by kernel_rfl) (by kernel_rfl) (by kernel_rfl) (by decide) (fun _ _ _ h => h.elim) (by assumption) (.inl ⟨?_, fun w => ?_⟩) ?_
  rotate_left 2
  · (simp only [List.getElem?_toArray, List.getElem?_cons_succ, List.getElem?_cons_zero]; rfl)
  · rfl
  · (go_simp; try with_reducible rfl)
  simp only [Act.put, List.setIfInBounds_toArray, List.set_cons_zero, List.set_cons_succ]
  refine till_take0 (i := 1) (oi := ?_) (v := ?_) ?_ (by kernel_rfl) (by kernel_rfl) (by kernel_rfl) (by decide) (fun _ _ _ h => h.elim) (by assumption) (.inl ⟨?_, fun w => ?_⟩) ?_
  rotate_left 2
  · (simp only [List.getElem?_toArray, List.getElem?_cons_succ, List.getElem?_cons_zero]; rfl)
  · rfl
  · (go_simp; try with_reducible rfl)
  simp only [Act.put, List.setIfInBounds_toArray, List.set_cons_zero, List.set_cons_succ]
  refine till_take0 (i := 2) (oi := ?_) (v := ?_) ?_ (by kernel_rfl) (by kernel_rfl) (by kernel_rfl) (by decide) (fun _ _ _ h => h.elim) (by assumption) (.inl ⟨?_, fun w => ?_⟩) ?_
  rotate_left 2
  · (simp only [List.getElem?_toArray, List.getElem?_cons_succ, List.getElem?_cons_zero]; rfl)
  · rfl
  · (go_simp; try with_reducible rfl)
  simp only [Act.put, List.setIfInBounds_toArray, List.set_cons_zero, List.set_cons_succ]
  refine till_take (i := 3) (oi := ?_) (v := ?_) ?_ (by kernel_rfl) (by kernel_rfl) (by kernel_rfl) (by kernel_rfl) (by kernel_rfl) (fun _ _ _ h => h.elim) (by assumption) (.inl ⟨?_, fun w9 hSw => ?_⟩) ?_
  rotate_left 2
  · (simp only [List.getElem?_toArray, List.getElem?_cons_succ, List.getElem?_cons_zero]; rfl)
  · rfl
  · (obtain ⟨G9, hG9⟩ := hSw; obtain ⟨f0, f1, g0, g1⟩ := HX.out _ _ hG9; clear hG9; go_simp; try with_reducible rfl)
  simp only [Act.put, List.setIfInBounds_toArray, List.set_cons_zero, List.set_cons_succ]
  refine till_take0 (i := 4) (oi := ?_) (v := ?_) ?_ (by kernel_rfl) (by kernel_rfl) (by kernel_rfl) (by decide) (fun _ _ _ h => h.elim) (by assumption) (.inl ⟨?_, fun w => ?_⟩) ?_
  rotate_left 2
  · (simp only [List.getElem?_toArray, List.getElem?_cons_succ, List.getElem?_cons_zero]; rfl)
  · rfl
  · (go_simp; try with_reducible rfl)
  simp only [Act.put, List.setIfInBounds_toArray, List.set_cons_zero, List.set_cons_succ]
  refine till_take0 (i := 5) (oi := ?_) (v := ?_) ?_ (by kernel_rfl) (by kernel_rfl) (by kernel_rfl) (by decide) (fun _ _ _ h => h.elim) (by assumption) (.inl ⟨?_, fun w => ?_⟩) ?_
  rotate_left 2
  · (simp only [List.getElem?_toArray, List.getElem?_cons_succ, List.getElem?_cons_zero]; rfl)
  · rfl
  · (go_simp; try with_reducible rfl)
  simp only [Act.put, List.setIfInBounds_toArray, List.set_cons_zero, List.set_cons_succ]
  refine till_take (i := 6) (oi := ?_) (v := ?_) ?_ (by kernel_rfl) (by kernel_rfl) (by kernel_rfl) (by kernel_rfl) (by kernel_rfl) (fun _ _ _ h => h.elim) (by assumption) (.inl ⟨?_, fun w9 hSw => ?_⟩) ?_
  rotate_left 2
  · (simp only [List.getElem?_toArray, List.getElem?_cons_succ, List.getElem?_cons_zero]; rfl)
  · rfl
  · (obtain ⟨G9, hG9⟩ := hSw; obtain ⟨f0, f1, g0, g1⟩ := HX.out _ _ hG9; clear hG9; go_simp; try with_reducible rfl)
  simp only [Act.put, List.setIfInBounds_toArray, List.set_cons_zero, List.set_cons_succ]
  refine till_take0 (i := 7) (oi := ?_) (v := ?_) ?_ (by kernel_rfl) (by kernel_rfl) (by kernel_rfl) (by decide) (fun _ _ _ h => h.elim) (by assumption) (.inl ⟨?_, fun w => ?_⟩) ?_
  rotate_left 2
  · (simp only [List.getElem?_toArray, List.getElem?_cons_succ, List.getElem?_cons_zero]; rfl)
  · rfl
  · (go_simp; try with_reducible rfl)
  simp only [Act.put, List.setIfInBounds_toArray, List.set_cons_zero, List.set_cons_succ]
  refine till_take (i := 8) (oi := ?_) (v := .agg (imgC (.slice (some ⟨y, 0, none⟩) 2 m))) ?_ (by kernel_rfl) (by kernel_rfl) (by kernel_rfl) (by kernel_rfl) (by kernel_rfl) (fun _ _ _ h => h.elim) (by assumption) (.inl ⟨?_, fun w9 hSw => ?_⟩) ?_
  rotate_left 1
  · (simp only [List.getElem?_toArray, List.getElem?_cons_succ, List.getElem?_cons_zero]; rfl)
  · rfl
  · exact (let ⟨G9, hG9⟩ := hSw; exec_load_mid 95 (.tmp 42) rfl (HR.out _ _ hG9) rfl Tryz.underlying95 rfl (by show _ = some 7; kernel_rfl))
  simp only [Act.put, List.setIfInBounds_toArray, List.set_cons_zero, List.set_cons_succ]
  have ha := hd.alloc (.cells #[.int .i64 0, .int .i64 0, .int .i64 0, .int .i64 0, .int .u64 0, .slice none 0 0, .slice none 0 0] 95)
  obtain ⟨k, hk⟩ : ∃ k, W1.drew.heap.size = k := ⟨_, rfl⟩
  rw [hk] at ha
  refine till_one (i := 9) (by kernel_rfl) ?_
  refine wpOp_runTo rfl rfl (v := .pointer (some ⟨k, 0, none⟩)) (w' := W1.drew.alloc (.cells #[.int .i64 0, .int .i64 0, .int .i64 0, .int .i64 0, .int .u64 0, .slice none 0 0, .slice none 0 0] 95)) (by rw [← hk]; kernel_rfl) ⟨fun _ => ⟨_, ha.perm (star_assoc _ _ _).symm⟩, ?_⟩
  generalize W1.drew.alloc (.cells #[.int .i64 0, .int .i64 0, .int .i64 0, .int .i64 0, .int .u64 0, .slice none 0 0, .slice none 0 0] 95) = W2 at *
  simp only [Act.put, List.setIfInBounds_toArray, List.set_cons_zero, List.set_cons_succ, List.getElem_toArray, List.getElem_cons_succ, List.getElem_cons_zero]
  refine till_one (i := 10) (by kernel_rfl) ?_
  refine wpOp_store (cells := imgC (.slice (some ⟨y, 0, none⟩) 2 m)) rfl rfl 95 (.tmp 6) (.tmp 43) rfl ha rfl rfl (by show _ = some 7; kernel_rfl) rfl rfl ⟨fun hf => (by cases hf), ?_⟩
  have hb := ha.setRow (imgC (.slice (some ⟨y, 0, none⟩) 2 m))
  refine ⟨by kernel_rfl, NoPanic.normal ?_⟩
  generalize W2.setRow k (imgC (.slice (some ⟨y, 0, none⟩) 2 m)) = W3 at *
  clear ha hS hd h1
  simp only [Act.put, List.setIfInBounds_toArray, List.set_cons_zero, List.set_cons_succ, List.getElem_toArray, List.getElem_cons_succ, List.getElem_cons_zero]
  have m0 : W3.cell? ⟨k, 0, none⟩ = some (.int .i64 2) := hb.cell 0 rfl
  have m2 : W3.cell? ⟨k, 2, none⟩ = some (.int .i64 1) := hb.cell 2 rfl
  have m5 : W3.cell? ⟨k, 5, none⟩ = some (.slice (some ⟨y, 0, none⟩) 2 m) := hb.cell 5 rfl
  have hb' := hb.perm (star_assoc _ _ _).symm
  obtain ⟨f0, f1, g0, g1⟩ := HX.out _ _ hb'
  go_upto_region 5 with (fail)
  go_quiet (fail)
  obtain ⟨C, hC⟩ : ∃ C, C = (blk k (.cells (imgC (.slice (some ⟨y, 0, none⟩) 2 m)) 95) * emp) * B := ⟨_, rfl⟩
  have h4 := hb'.drewN nq
  generalize W3.drewN nq = W4 at *
  rw [← hC] at h4
  have hV : ∀ (w' : World) (G : SProp), St w0 w' (G * C) → w'.cell? ⟨y, 0, none⟩ = some (.int .u32 7) ∧ w'.cell? ⟨y, 1, none⟩ = some (.int .u32 8) := fun w' G h' => by
    rw [hC] at h'
    exact HU.out _ _ h'.right
  have hF : ∀ (w' : World) (G : SProp), St w0 w' (G * C) → St w0 w' (sesB b (.slice (some ⟨x, 0, none⟩) 1 n) lw f out * F) := fun w' G h' => by
    rw [hC] at h'
    exact HE.out _ _ h'.right
  have HV := Lib.hid hV; have HF := Lib.hid hF
  have H4 := Lib.hid (St.own_nil 9 1 h4)
  clear hV hF h4 hC f0 f1 g0 g1 m0 m2 m5 hb hb' HX HE HR HU
  have hi7 : ∀ w : World, Calls Tryz.prog 28 #[.int .i64 7] w fun e w' => e = .returned (.string ⟨#[55]⟩) ∧ w' = w := fun w => by
    have := Tryz.strconv_Itoa_small 7 (by decide) w
    rw [show Lib.decDigits 7 = [55] by decide +kernel] at this
    exact this
  have hi8 : ∀ w : World, Calls Tryz.prog 28 #[.int .i64 8] w fun e w' => e = .returned (.string ⟨#[56]⟩) ∧ w' = w := fun w => by
    have := Tryz.strconv_Itoa_small 8 (by decide) w
    rw [show Lib.decDigits 8 = [56] by decide +kernel] at this
    exact this
  have HI7 := Lib.hid hi7; have HI8 := Lib.hid hi8
  clear hi7 hi8
  have T := elemSt
  go_wp2
  go_loopw [67, 7] (fun vi vl wr => ∃ k : Nat, k ≤ 2 ∧ vi = .int .i64 k ∧ St w0 wr (own 9 1 vl k (rowT k) * C)) (fun vi _ _ => 2 - (intOf vi).toNat)
  case atStart => exact ⟨0, by omega, rfl, H4.out⟩
  clear H4
  case round =>
    obtain ⟨k, hk, rfl, h2⟩ := hrel
    obtain ⟨y0, y1⟩ := HV.out _ _ h2
    obtain ⟨al, cl, rfl⟩ := h2.reads.sub
    have H2 := Lib.hid h2; clear h2
    rcases (by omega : k = 0 ∨ k = 1 ∨ k = 2) with rfl | rfl | rfl
    · go_wp2_with (first
        | (go_at_call 28; refine (HI7.out _).mono ?_; rintro e w1 ⟨rfl, rfl⟩)
        | (at_builtin; apply stop))
      refine on (wpList_append_sep T rfl _ _ rfl rfl (H2.out.drop_alloc (.cells #[.string ⟨#[55]⟩] 9)) rfl ((H2.out.lit #[.string ⟨#[55]⟩] 9 1 rfl (by decide)).reads) (by intro u hu; simp at hu; subst hu; rfl) (by decide) (by decide) ?_)
      intro v' w2 h3 _
      have H3 := Lib.hid (show St w0 w2 (own 9 1 v' 1 (rowT 1) * C) from h3)
      clear h3 H2 y0 y1
      go_wp2
      exact ⟨⟨1, by omega, by go_num, H3.out⟩, by simp [intOf]⟩
    · go_wp2_with (first
        | (go_at_call 28; refine (HI8.out _).mono ?_; rintro e w1 ⟨rfl, rfl⟩)
        | (at_builtin; apply stop))
      refine on (wpList_append_sep T rfl _ _ rfl rfl (H2.out.drop_alloc (.cells #[.string ⟨#[56]⟩] 9)) rfl ((H2.out.lit #[.string ⟨#[56]⟩] 9 1 rfl (by decide)).reads) (by intro u hu; simp at hu; subst hu; rfl) (by decide) (by decide) ?_)
      intro v' w2 h3 _
      have H3 := Lib.hid (show St w0 w2 (own 9 1 v' 2 (rowT 2) * C) from h3)
      clear h3 H2 y0 y1
      go_wp2
      exact ⟨⟨2, by omega, by go_num, H3.out⟩, by simp [intOf]⟩
    · obtain ⟨s, rfl, h5⟩ : ∃ s, al = some ⟨s, 0, none⟩ ∧ s < wr.heap.size := by
        obtain ⟨_, ⟨e, h0, _⟩ | ⟨s, c', cur, e, _, _, _, _, h6⟩⟩ := H2.out.own_split
        · cases h0
        · cases e; exact ⟨s, rfl, h6.lt⟩
      have hcl : 2 ≤ cl := by
        obtain ⟨_, ⟨e, h0, _⟩ | ⟨s, c', cur, e, h6, _⟩⟩ := H2.out.own_split
        · cases h0
        · cases e; exact h6
      have hj := Tryz.strings_Join s 0 cl [⟨#[55]⟩, ⟨#[56]⟩] ⟨#[32]⟩ wr (by
        intro j u hu
        rw [Nat.zero_add]
        refine own_cellS (u := .string u) H2.out ?_
        rcases j with _ | _ | j
        · simp at hu; subst hu; rfl
        · simp at hu; subst hu; rfl
        · simp at hu) h5 (by decide) hcl (by decide +kernel)
      rw [show Lib.join (([⟨#[55]⟩, ⟨#[56]⟩] : List ByteArray).map (·.data.toList)) (⟨#[32]⟩ : ByteArray).data.toList = [55, 32, 56] by decide +kernel] at hj
      have HJ := Lib.hid hj
      clear hj h5 hcl y0 y1
      go_wp2_with (go_at_call 56; refine HJ.out.mono ?_; rintro e w2 ⟨rfl, hb2⟩; have H3 := Lib.hid (HF.out _ _ (H2.out.ext hb2.os hb2.tape hb2.output hb2.size (fun k hk => hb2.block k hk))); clear hb2)
      go_ret2
      exact ⟨rfl, H3.out⟩
#print axioms row_any
end Go.Proofs.YtknelobnbpboiaaGreatDoor
