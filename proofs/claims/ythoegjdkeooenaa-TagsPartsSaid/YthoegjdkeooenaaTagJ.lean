/-
  Layer 23, the document: a field among fields in order of their tags (put of package mezzotintref23).
-/
import Derived.Test.YthoegjdkeooenaaTagR
import Derived.Laws.StructEq
import Derived.Deep.QuietTactic
import Derived.BigQuiet
namespace Go.Proofs.Ythoegjdkeooenaa
open Go.RowKit Go.Mz
set_option linter.unusedVariables false
set_option linter.unusedSimpArgs false
set_option maxRecDepth 100000

theorem Reads.takeS {w : World} {size n cap : Nat} {x : Addr} {xs : List Value} (h : Reads w size (.slice (some x) n cap) n xs) {k : Nat} (hk : k ≤ n) : Reads w size (.slice (some x) k cap) k (xs.take (k * size)) := by
  obtain ⟨hl, ⟨h0, _⟩ | ⟨x, c, h1, h2, h3, h4⟩⟩ := h
  · cases h0
  · cases h1
    have := Nat.mul_le_mul_right size hk
    refine ⟨by rw [List.length_take, hl]; omega, .inr ⟨_, _, rfl, by omega, h3, fun j u hu => h4 j u ?_⟩⟩
    rw [List.getElem?_take] at hu
    split at hu
    · exact hu
    · cases hu
theorem Reads.dropS {w : World} {size n cap : Nat} {x : Addr} {xs : List Value} (h : Reads w size (.slice (some x) n cap) n xs) {k : Nat} (hk : k ≤ n) : Reads w size (.slice (some (x.add (k * size))) (n - k) (cap - k)) (n - k) (xs.drop (k * size)) := by
  obtain ⟨hl, ⟨h0, _⟩ | ⟨x, c, h1, h2, h3, h4⟩⟩ := h
  · cases h0
  · cases h1
    refine ⟨by rw [List.length_drop, hl, Nat.sub_mul], .inr ⟨_, _, rfl, by omega, by omega, fun j u hu => ?_⟩⟩
    rw [List.getElem?_drop] at hu
    have := h4 (k * size + j) u hu
    rw [Addr.add_add]
    exact this
theorem flat3 (L : List FV) : (L.flatMap fldC).length = L.length * 3 := by
  induction L with
  | nil => rfl
  | cons x l ih => rw [List.flatMap_cons, List.length_append, ih, List.length_cons]; show 3 + _ = _; omega
theorem flat_take (L : List FV) (k : Nat) : (L.flatMap fldC).take (k * 3) = (L.take k).flatMap fldC := by
  by_cases hk : k ≤ L.length
  · have e : L.flatMap fldC = (L.take k).flatMap fldC ++ (L.drop k).flatMap fldC := by rw [← List.flatMap_append, List.take_append_drop]
    rw [e, List.take_left' (by rw [flat3, List.length_take, Nat.min_eq_left hk])]
  · rw [List.take_of_length_le (by rw [flat3]; omega), List.take_of_length_le (by omega)]
theorem flat_drop (L : List FV) (k : Nat) : (L.flatMap fldC).drop (k * 3) = (L.drop k).flatMap fldC := by
  by_cases hk : k ≤ L.length
  · have e : L.flatMap fldC = (L.take k).flatMap fldC ++ (L.drop k).flatMap fldC := by rw [← List.flatMap_append, List.take_append_drop]
    rw [e, List.drop_left' (by rw [flat3, List.length_take, Nat.min_eq_left hk])]
  · rw [List.drop_of_length_le (by rw [flat3]; omega), List.drop_of_length_le (by omega)]; rfl

/-- What is left of a slice from place k on, as the model says it. -/
theorem Reads.dropI {w : World} {b off n cap k : Nat} {L : List FV} (hn : n = L.length) (h : Reads w 3 (.slice (some ⟨b, off, none⟩) n cap) n (L.flatMap fldC)) (hk : k ≤ n) :
    Reads w 3 (.slice (if cap = k then some ⟨b, off, none⟩ else some ⟨b, off + k * 3, none⟩) (n - k) (cap - k)) (n - k) ((L.drop k).flatMap fldC) := by
  have h1 := Reads.dropS h hk
  rw [flat_drop, Addr.add_lit] at h1
  split
  · rename_i he
    have hc : n ≤ cap := by
      obtain ⟨_, ⟨e, _⟩ | ⟨x, c, e, g1, g2, _⟩⟩ := h
      · cases e
      · cases e; exact g1
    have h0 : L.drop k = [] := List.drop_of_length_le (by omega)
    rw [h0, show n - k = 0 by omega, show cap - k = 0 by omega]
    exact ⟨rfl, .inr ⟨_, _, rfl, Nat.le_refl _, Nat.zero_le _, fun j u hu => by simp at hu⟩⟩
  · exact h1
def lowT (t : Nat) (y : FV) : Bool := decide (y.2.tag < t)
def insV (y : FV) (L : List FV) : List FV := L.takeWhile (lowT y.2.tag) ++ y :: L.dropWhile (lowT y.2.tag)
def dupV (t : Nat) (L : List FV) : Bool := match L.dropWhile (lowT t) with
  | y :: _ => y.2.tag == t
  | [] => false
theorem fl_insV (y : FV) (L : List FV) : fl (insV y L) = insF y.2 (fl L) := by
  unfold insV
  induction L with
  | nil => rfl
  | cons g r ih =>
    rw [List.takeWhile_cons, List.dropWhile_cons]
    unfold lowT at ih ⊢
    unfold fl at ih ⊢
    rw [List.map_cons, insF]
    by_cases h : g.2.tag < y.2.tag
    · simp only [h, decide_true, if_true]
      rw [List.cons_append, List.map_cons, ih]
    · simp only [h, decide_false, Bool.false_eq_true, if_false]
      rfl
theorem tw_split {p : FV → Bool} : ∀ {k : Nat} {L : List FV}, (∀ y ∈ L.take k, p y = true) → (∀ y, L[k]? = some y → p y = false) → L.takeWhile p = L.take k ∧ L.dropWhile p = L.drop k := by
  intro k
  induction k with
  | zero =>
    intro L _ h
    cases L with
    | nil => exact ⟨rfl, rfl⟩
    | cons y r => have := h y rfl; rw [List.takeWhile_cons, List.dropWhile_cons, this]; exact ⟨rfl, rfl⟩
  | succ k ih =>
    intro L h1 h2
    cases L with
    | nil => exact ⟨rfl, rfl⟩
    | cons y r =>
      rw [List.take_succ_cons] at h1
      obtain ⟨a, b⟩ := ih (L := r) (fun z hz => h1 z (List.mem_cons_of_mem _ hz)) (fun z hz => h2 z (by simpa using hz))
      rw [List.takeWhile_cons, List.dropWhile_cons, h1 y List.mem_cons_self, a, b]
      exact ⟨rfl, rfl⟩
/-- What put gives: the fields with one more, or as they were and false. -/
def PutOut (w0 : World) (G : SProp) (L L' : List FV) (b : Bool) (e : Ending) (w' : World) : Prop :=
  ∃ v', e = .returned (.tuple #[v', .bool b]) ∧ St w0 w' (own 53 3 v' L'.length (L'.flatMap fldC) * G)
set_option maxHeartbeats 40000000 in
theorem put_any {w0 w : World} {G : SProp} {v : Value} {L : List FV} (h : St w0 w (own 53 3 v L.length (L.flatMap fldC) * G)) (hone : ∀ y ∈ L, y.1.oneCell' = true) (hL : L.length ≤ 2000) (a : Option Addr) (n c : Nat) (o : Fld) :
    Calls Try.prog 43 #[v, .agg #[.int .u16 (o.tag : Int), .int .i64 o.kind, .slice a n c]] w (PutOut w0 G L (if dupV o.tag L then L else insV (.slice a n c, o) L) (!dupV o.tag L)) := by
  obtain ⟨av, cv, rfl⟩ := h.reads.sub
  obtain ⟨LR, hLR⟩ : ∃ LR, LR = (if dupV o.tag L then L else insV (.slice a n c, o) L) := ⟨_, rfl⟩
  obtain ⟨br, hbr⟩ : ∃ br, br = !dupV o.tag L := ⟨_, rfl⟩
  rw [← hLR, ← hbr]
  have HLR := Lib.hid hLR; have HBR := Lib.hid hbr
  clear hLR hbr
  have H1 := Lib.hid (h.alloc (.cells #[.int .u16 (o.tag : Int), .int .i64 o.kind, .slice a n c] 53))
  have HRD := Lib.hid (h.reads)
  have HON := Lib.hid hone
  clear h hone
  go_enter Try.func43, Try.ntmps43
  go_wp2_with fail
  generalize hbb : w.heap.size = fb at *
  have HS : Hid (St w0 _ (blk fb (.cells #[.int .u16 (o.tag : Int), .int .i64 o.kind, .slice a n c] 53) * (own 53 3 (.slice av L.length cv) L.length (L.flatMap fldC) * G))) := H1
  clear H1 hbb HRD
  generalize World.alloc _ _ = wa at *
  go_loopw [6] (fun vi wr => ∃ k : Nat, k ≤ L.length ∧ vi = .int .i64 k ∧ (∀ y ∈ L.take k, lowT o.tag y = true) ∧ St w0 wr (blk fb (.cells #[.int .u16 (o.tag : Int), .int .i64 o.kind, .slice a n c] 53) * (own 53 3 (.slice av L.length cv) L.length (L.flatMap fldC) * G))) (fun vi _ => L.length - (intOf vi).toNat)
  case atStart => exact ⟨0, by omega, rfl, fun y hy => by simp at hy, HS.out⟩
  case round =>
    clear HS
    obtain ⟨k, hk, rfl, hlow, hst⟩ := hrel
    by_cases hkn : k < L.length
    · have hx := List.getElem?_eq_getElem hkn
      obtain ⟨b, off, rfl, c0, c1, c2⟩ := reads_fld hst.right.reads hx
      have hkI : (k : Int) < L.length := by omega
      have htk : L.take (k + 1) = L.take k ++ [L[k]] := List.take_succ_eq_append_getElem hkn
      have f0 : wr.cell? ⟨fb, 0, none⟩ = some (.int .u16 (o.tag : Int)) := hst.cell 0 rfl
      have hon := HON.out _ (List.getElem_mem hkn)
      generalize L[k] = x at *
      by_cases hlt : x.2.tag < o.tag
      · have hltI : (x.2.tag : Int) < o.tag := by omega
        have HTK := Lib.hid htk; have HLW := Lib.hid hlow; have HX := Lib.hid hlt; have HST := Lib.hid hst
        clear htk hlow hlt hx hst
        go_upto_region 2 with (fail)
        go_quiet (fail)
        go_wp2_with fail
        refine ⟨⟨k + 1, by omega, by go_num, ?_, HST.out.drewN _⟩, by simp [intOf]; omega⟩
        rw [HTK.out]
        intro y hy
        rcases List.mem_append.1 hy with hy | hy
        · exact HLW.out y hy
        · obtain rfl := List.mem_singleton.1 hy
          exact decide_eq_true HX.out
      · have hltI : ¬ (x.2.tag : Int) < o.tag := by omega
        have hsp := tw_split hlow (fun y hy => by rw [hx] at hy; cases hy; exact decide_eq_false hlt)
        have HSP := Lib.hid hsp; have HX := Lib.hid hx; have HST := Lib.hid hst
        clear hsp htk hlow hx hst
        go_upto_region 2 with (fail)
        go_quiet (fail)
        by_cases heq : x.2.tag = o.tag
        · have heqI : (x.2.tag : Int) = o.tag := by omega
          have hd : dupV o.tag L = true := by
            unfold dupV
            rw [HSP.out.2, List.drop_eq_getElem_cons hkn]
            have : L[k] = x := by have := HX.out; rw [List.getElem?_eq_getElem hkn] at this; exact Option.some.inj this
            rw [this]; simpa using heq
          have HD := Lib.hid hd
          have hbb : ((x.2.tag : Int) == o.tag) = true := by simpa using heqI
          clear hd heqI heq hlt
          go_upto_region 4 with (fail)
          go_quiet (fail)
          go_wp2_with fail
          go_ret2
          rw [HLR.out, HBR.out, HD.out, if_pos rfl]
          exact ⟨.slice (some ⟨b, off, none⟩) L.length cv, rfl, (HST.out.drewN _).right⟩
        · have hbb : ((x.2.tag : Int) == o.tag) = false := by
            have : ¬ (x.2.tag : Int) = o.tag := by omega
            simpa using this
          have hd : dupV o.tag L = false := by
            unfold dupV
            rw [HSP.out.2, List.drop_eq_getElem_cons hkn]
            have : L[k] = x := by have := HX.out; rw [List.getElem?_eq_getElem hkn] at this; exact Option.some.inj this
            rw [this]; simpa using heq
          have HD := Lib.hid hd
          clear hd heq hlt
          go_upto_region 4 with (fail)
          go_quiet (fail)
          go_upto_region 6 with (fail)
          generalize hWW : World.drewN _ _ = W0
          have HD6 := Lib.hid (show St w0 W0 (blk fb (.cells #[.int .u16 (o.tag : Int), .int .i64 o.kind, .slice a n c] 53) * (own 53 3 (.slice (some ⟨b, off, none⟩) L.length cv) L.length (L.flatMap fldC) * G)) by rw [← hWW]; first | exact HST.out.drewN _ | exact (HST.out.drewN _).drewN _)
          clear hWW HST
          have HS6 := Lib.hid HD6.out.drew
          clear HD6
          refine wp_region_noPanic ?_
          refine region_till (S := fun W : World => St w0 W (blk fb (.cells #[.int .u16 (o.tag : Int), .int .i64 o.kind, .slice a n c] 53) * (own 53 3 (.slice (some ⟨b, off, none⟩) L.length cv) L.length (L.flatMap fldC) * G))) (k := 6) (by kernel_rfl) ?_
          have hS := HS6.out
          refine till_take (i := 0) (oi := ?_) (v := ?_) ?_ (by kernel_rfl) (by kernel_rfl) (by kernel_rfl) (by kernel_rfl) (by kernel_rfl) (fun _ _ _ h => h.elim) (by assumption) (.inl ⟨?_, fun w hSw => ?_⟩) ?_
          rotate_left 2
          · (simp only [List.getElem?_toArray, List.getElem?_cons_succ, List.getElem?_cons_zero]; rfl)
          · rfl
          · (have hc0 : w.cell? ⟨fb, 0, none⟩ = some (.int .u16 (o.tag : Int)) := hSw.cell 0 rfl; have hc1 : w.cell? ⟨fb, 1, none⟩ = some (.int .i64 o.kind) := hSw.cell 1 rfl; have hc2 : w.cell? ⟨fb, 2, none⟩ = some (.slice a n c) := hSw.cell 2 rfl; clear hSw; go_simp; try with_reducible rfl)
          simp only [Act.put, List.setIfInBounds_toArray, List.set_cons_zero, List.set_cons_succ]
          refine till_take0 (i := 2) (oi := ?_) (v := ?_) ?_ (by kernel_rfl) (by kernel_rfl) (by kernel_rfl) (by decide) (fun _ _ _ h => h.elim) (by assumption) (.inl ⟨?_, fun w => ?_⟩) ?_
          rotate_left 2
          · (simp only [List.getElem?_toArray, List.getElem?_cons_succ, List.getElem?_cons_zero]; rfl)
          · rfl
          · (go_simp; try with_reducible rfl)
          simp only [Act.put, List.setIfInBounds_toArray, List.set_cons_zero, List.set_cons_succ]
          refine till_take0 (i := 3) (oi := ?_) (v := ?_) ?_ (by kernel_rfl) (by kernel_rfl) (by kernel_rfl) (by decide) (fun _ _ _ h => h.elim) (by assumption) (.inl ⟨?_, fun w => ?_⟩) ?_
          rotate_left 2
          · (simp only [List.getElem?_toArray, List.getElem?_cons_succ, List.getElem?_cons_zero]; rfl)
          · rfl
          · (go_simp; try with_reducible rfl)
          simp only [Act.put, List.setIfInBounds_toArray, List.set_cons_zero, List.set_cons_succ]
          refine till_take0 (i := 4) (oi := ?_) (v := ?_) ?_ (by kernel_rfl) (by kernel_rfl) (by kernel_rfl) (by decide) (fun _ _ _ h => h.elim) (by assumption) (.inl ⟨?_, fun w => ?_⟩) ?_
          rotate_left 2
          · (simp only [List.getElem?_toArray, List.getElem?_cons_succ, List.getElem?_cons_zero]; rfl)
          · rfl
          · (go_simp; try with_reducible rfl)
          simp only [Act.put, List.setIfInBounds_toArray, List.set_cons_zero, List.set_cons_succ]
          clear hS
          generalize W0.drew = W5 at *
          refine till_one (i := 1) (by kernel_rfl) ?_
          refine wpOp_step (by rfl) fun K' hK => ?_
          have h8 := (HS6.out.alloc (.cells #[.int .u16 (o.tag : Int), .int .i64 o.kind, .slice a n c] 53)).own_blk (size := 3) (n := 1) (cap := 1) (xs := fldC (.slice a n c, o)) (Nat.le_refl _) (by decide) rfl rfl
          go_simp
          refine hK _ _ ⟨fun e => h8.right, ?_⟩
          clear hK K'
          have H8 := Lib.hid h8
          clear h8 HS6
          generalize W5.heap.size = g8 at *
          generalize World.alloc _ _ = W8 at *
          have TF := elemFld
          have hdr := Reads.dropI rfl H8.out.right.right.reads (k := k) (by omega)
          have hcv : k ≤ cv := by
            obtain ⟨_, ⟨e, _⟩ | ⟨x, c, e, g1, g2, _⟩⟩ := H8.out.right.right.reads
            · cases e
            · cases e; omega
          generalize (if cv = k then some (⟨b, off, none⟩ : Addr) else some ⟨b, off + k * 3, none⟩) = ad at hdr ⊢
          have HDR := Lib.hid hdr
          have HO1 := Lib.hid (ones_fld (M := L.drop k) (fun y hy => HON.out y (List.mem_of_mem_drop hy)))
          have HO2 := Lib.hid (ones_fld (M := L.take k) (fun y hy => HON.out y (List.mem_of_mem_take hy)))
          clear hdr
          refine till_one (i := 5) (by kernel_rfl) ?_
          refine wpOp_step (by rfl) fun K' hK => ?_
          refine step_append_L TF rfl _ _ rfl rfl (stl2 H8.out) 0 rfl (x := .slice ad (L.length - k) (cv - k)) rfl (m := L.length - k) (news := (L.drop k).flatMap fldC) HDR.out HO1.out (by unfold maxLen; omega) (by omega) fun v9 W9 h90 _ => ?_
          have h9 := stl2_out h90
          refine hK _ _ ⟨fun e => h9.right, ?_⟩
          clear hK K' h90 HDR H8
          refine till_one (i := 6) (by kernel_rfl) ?_
          refine wpOp_step (by rfl) fun K' hK => ?_
          go_simp
          refine hK _ _ ⟨fun e => (by first | exact absurd e (by decide) | (simp at e)), ?_⟩
          clear hK K'
          have H9 := Lib.hid h9
          clear h9
          refine ⟨(by kernel_rfl), NoPanic.normal ?_⟩
          go_wp2_with (at_builtin; apply stop)
          have HA := Lib.hid ((H9.out.alloc (.cells #[] 53)).own_blk (size := 3) (n := 0) (cap := 0) (xs := []) (Nat.le_refl _) (by decide) rfl rfl)
          have HTR := Lib.hid (show Reads (W9.alloc (.cells #[] 53)) 3 (.slice (some ⟨b, off, none⟩) k cv) k ((L.take k).flatMap fldC) by
            have := Reads.takeS HA.out.right.right.right.reads (k := k) (by omega)
            rw [flat_take] at this
            exact this)
          refine on (wpList_append_sep TF rfl _ _ rfl rfl HA.out rfl (m := k) (news := (L.take k).flatMap fldC) HTR.out HO2.out (by unfold maxLen; omega) (by omega) ?_)
          intro v10 W10 h10 _
          have H10 := Lib.hid h10
          clear h10 HA H9
          go_wp2_with (at_builtin; apply stop)
          have HX10 := Lib.hid H10.out.right.reads
          have HO3 := Lib.hid (show ∀ u ∈ fldC (.slice a n c, o) ++ (L.drop k).flatMap fldC, u.oneCell' = true from fun u hu => by
            rcases List.mem_append.1 hu with hu | hu
            · exact fldC_one u hu
            · exact HO1.out u hu)
          refine on (wpList_append_sep TF rfl _ _ rfl rfl H10.out rfl (m := 1 + (L.length - k)) (news := fldC (.slice a n c, o) ++ (L.drop k).flatMap fldC) HX10.out HO3.out (by unfold maxLen; omega) (by omega) ?_)
          intro v11 W11 h11 _
          have H11 := Lib.hid h11
          clear h11 H10 HX10
          go_wp2_with fail
          go_ret2
          rw [HLR.out, HBR.out, HD.out, if_neg (by decide)]
          have hi : insV (.slice a n c, o) L = L.take k ++ (.slice a n c, o) :: L.drop k := by unfold insV; rw [HSP.out.1, HSP.out.2]
          have hl : (insV (.slice a n c, o) L).length = 0 + k + (1 + (L.length - k)) := by rw [hi, List.length_append, List.length_cons, List.length_take, List.length_drop]; omega
          refine ⟨v11, rfl, ?_⟩
          rw [hl, hi, List.flatMap_append, List.flatMap_cons]
          have h := H11.out.perm (show _ = (own 53 3 v9 (1 + (L.length - k)) (fldC (.slice a n c, o) ++ (L.drop k).flatMap fldC) * (blk fb (.cells #[.int .u16 (o.tag : Int), .int .i64 o.kind, .slice a n c] 53) * own 53 3 (.slice (some ⟨b, off, none⟩) L.length cv) L.length (L.flatMap fldC))) * (own 53 3 v11 (0 + k + (1 + (L.length - k))) ([] ++ (L.take k).flatMap fldC ++ (fldC (.slice a n c, o) ++ (L.drop k).flatMap fldC)) * G) by ac_rfl)
          have h := h.right
          rw [List.nil_append] at h
          exact h
    · have hkI : ¬ (k : Int) < L.length := by omega
      have hkl : k = L.length := by omega
      have hsp := tw_split hlow (fun y hy => by rw [List.getElem?_eq_none (by omega)] at hy; cases hy)
      have hd : dupV o.tag L = false := by
        unfold dupV
        rw [hsp.2, List.drop_of_length_le (by omega)]
      have HD := Lib.hid hd; have HSP := Lib.hid hsp
      obtain ⟨hz1, ⟨e1, e2, hz2⟩ | ⟨g, cap, cur, e1, _⟩⟩ := hst.right.own_split
      · have hk0 : k = 0 := by omega
        subst hk0
        have hL0 : L = [] := List.eq_nil_of_length_eq_zero e2
        subst hL0
        simp only [Value.slice.injEq] at e1
        obtain ⟨rfl, hz3, rfl⟩ := e1
        have HST : Hid (St w0 wr (blk fb (.cells #[.int .u16 (o.tag : Int), .int .i64 o.kind, .slice a n c] 53) * (own 53 3 (.slice none 0 0) 0 [] * G))) := Lib.hid hst
        clear hz1 hz2 hz3 hL hd hkl hkn hk hkI e2 hlow hsp HSP hst
        simp only [List.length_nil]
        have h00 : ¬ ((0 : Int) < 0) := by omega
        go_upto_region 2 with (fail)
        go_quiet (fail)
        go_upto_region 4 with (fail)
        go_quiet (fail)
        go_upto_region 6 with (fail)
        generalize hWW : World.drewN _ _ = W0
        have HD6 := Lib.hid (show St w0 W0 (blk fb (.cells #[.int .u16 (o.tag : Int), .int .i64 o.kind, .slice a n c] 53) * (own 53 3 (.slice none 0 0) 0 ([]) * G)) by rw [← hWW]; first | exact HST.out.drewN _ | exact (HST.out.drewN _).drewN _)
        clear hWW HST
        have HS6 := Lib.hid HD6.out.drew
        clear HD6
        refine wp_region_noPanic ?_
        refine region_till (S := fun W : World => St w0 W (blk fb (.cells #[.int .u16 (o.tag : Int), .int .i64 o.kind, .slice a n c] 53) * (own 53 3 (.slice none 0 0) 0 ([]) * G))) (k := 6) (by kernel_rfl) ?_
        have hS := HS6.out
        refine till_take (i := 0) (oi := ?_) (v := ?_) ?_ (by kernel_rfl) (by kernel_rfl) (by kernel_rfl) (by kernel_rfl) (by kernel_rfl) (fun _ _ _ h => h.elim) (by assumption) (.inl ⟨?_, fun w hSw => ?_⟩) ?_
        rotate_left 2
        · (simp only [List.getElem?_toArray, List.getElem?_cons_succ, List.getElem?_cons_zero]; rfl)
        · rfl
        · (have hc0 : w.cell? ⟨fb, 0, none⟩ = some (.int .u16 (o.tag : Int)) := hSw.cell 0 rfl; have hc1 : w.cell? ⟨fb, 1, none⟩ = some (.int .i64 o.kind) := hSw.cell 1 rfl; have hc2 : w.cell? ⟨fb, 2, none⟩ = some (.slice a n c) := hSw.cell 2 rfl; clear hSw; go_simp; try with_reducible rfl)
        simp only [Act.put, List.setIfInBounds_toArray, List.set_cons_zero, List.set_cons_succ]
        refine till_take0 (i := 2) (oi := ?_) (v := ?_) ?_ (by kernel_rfl) (by kernel_rfl) (by kernel_rfl) (by decide) (fun _ _ _ h => h.elim) (by assumption) (.inl ⟨?_, fun w => ?_⟩) ?_
        rotate_left 2
        · (simp only [List.getElem?_toArray, List.getElem?_cons_succ, List.getElem?_cons_zero]; rfl)
        · rfl
        · (go_simp; try with_reducible rfl)
        simp only [Act.put, List.setIfInBounds_toArray, List.set_cons_zero, List.set_cons_succ]
        refine till_take0 (i := 3) (oi := ?_) (v := ?_) ?_ (by kernel_rfl) (by kernel_rfl) (by kernel_rfl) (by decide) (fun _ _ _ h => h.elim) (by assumption) (.inl ⟨?_, fun w => ?_⟩) ?_
        rotate_left 2
        · (simp only [List.getElem?_toArray, List.getElem?_cons_succ, List.getElem?_cons_zero]; rfl)
        · rfl
        · (go_simp; try with_reducible rfl)
        simp only [Act.put, List.setIfInBounds_toArray, List.set_cons_zero, List.set_cons_succ]
        refine till_take0 (i := 4) (oi := ?_) (v := ?_) ?_ (by kernel_rfl) (by kernel_rfl) (by kernel_rfl) (by decide) (fun _ _ _ h => h.elim) (by assumption) (.inl ⟨?_, fun w => ?_⟩) ?_
        rotate_left 2
        · (simp only [List.getElem?_toArray, List.getElem?_cons_succ, List.getElem?_cons_zero]; rfl)
        · rfl
        · (go_simp; try with_reducible rfl)
        simp only [Act.put, List.setIfInBounds_toArray, List.set_cons_zero, List.set_cons_succ]
        clear hS
        generalize W0.drew = W5 at *
        refine till_one (i := 1) (by kernel_rfl) ?_
        refine wpOp_step (by rfl) fun K' hK => ?_
        have h8 := (HS6.out.alloc (.cells #[.int .u16 (o.tag : Int), .int .i64 o.kind, .slice a n c] 53)).own_blk (size := 3) (n := 1) (cap := 1) (xs := fldC (.slice a n c, o)) (Nat.le_refl _) (by decide) rfl rfl
        go_simp
        refine hK _ _ ⟨fun e => h8.right, ?_⟩
        clear hK K'
        have H8 := Lib.hid h8
        clear h8 HS6
        generalize W5.heap.size = g8 at *
        generalize World.alloc _ _ = W8 at *
        have TF := elemFld
        have HDR := Lib.hid (show Reads W8 3 (.slice none 0 0) 0 [] from ⟨rfl, .inl ⟨rfl, rfl⟩⟩)
        refine till_one (i := 5) (by kernel_rfl) ?_
        refine wpOp_step (by rfl) fun K' hK => ?_
        refine step_append_L TF rfl _ _ rfl rfl (stl2 H8.out) 0 rfl (x := .slice none 0 0) rfl (m := 0) (news := []) HDR.out (fun u hu => by cases hu) (by unfold maxLen; omega) (by omega) fun v9 W9 h90 _ => ?_
        have h9 := stl2_out h90
        refine hK _ _ ⟨fun e => h9.right, ?_⟩
        clear hK K' h90 HDR H8
        refine till_one (i := 6) (by kernel_rfl) ?_
        refine wpOp_step (by rfl) fun K' hK => ?_
        go_simp
        refine hK _ _ ⟨fun e => (by first | exact absurd e (by decide) | (simp at e)), ?_⟩
        clear hK K'
        have H9 := Lib.hid h9
        clear h9
        refine ⟨(by kernel_rfl), NoPanic.normal ?_⟩
        go_wp2_with (at_builtin; apply stop)
        have HA := Lib.hid ((H9.out.alloc (.cells #[] 53)).own_blk (size := 3) (n := 0) (cap := 0) (xs := []) (Nat.le_refl _) (by decide) rfl rfl)
        refine on (wpList_append_sep TF rfl _ _ rfl rfl HA.out rfl (m := 0) (news := []) ⟨rfl, .inl ⟨rfl, rfl⟩⟩ (fun u hu => by cases hu) (by unfold maxLen; omega) (by omega) ?_)
        intro v10 W10 h10 _
        have H10 := Lib.hid h10
        clear h10 HA H9
        go_wp2_with (at_builtin; apply stop)
        have HX10 := Lib.hid H10.out.right.reads
        refine on (wpList_append_sep TF rfl _ _ rfl rfl H10.out rfl (m := 1 + 0) (news := fldC (.slice a n c, o) ++ []) HX10.out (by rw [List.append_nil]; exact fldC_one) (by unfold maxLen; omega) (by omega) ?_)
        intro v11 W11 h11 _
        have H11 := Lib.hid h11
        clear h11 H10 HX10
        go_wp2_with fail
        go_ret2
        rw [HLR.out, HBR.out, HD.out, if_neg (by decide)]
        have h := H11.out.perm (show _ = (own 53 3 v9 (1 + 0) (fldC (.slice a n c, o) ++ []) * (blk fb (.cells #[.int .u16 (o.tag : Int), .int .i64 o.kind, .slice a n c] 53) * own 53 3 (.slice none 0 0) 0 ([]))) * (own 53 3 v11 (0 + 0 + (1 + 0)) ([] ++ [] ++ (fldC (.slice a n c, o) ++ [])) * G) by ac_rfl)
        exact ⟨v11, rfl, h.right⟩
      · obtain ⟨b, off, rfl⟩ : ∃ b off, av = some ⟨b, off, none⟩ := by
          simp only [Value.slice.injEq] at e1
          exact ⟨g, 0, e1.1⟩
        have HST := Lib.hid hst
        clear hst hsp hd hlow e1 hkl hz1
        go_upto_region 2 with (fail)
        go_quiet (fail)
        go_upto_region 4 with (fail)
        go_quiet (fail)
        go_upto_region 6 with (fail)
        generalize hWW : World.drewN _ _ = W0
        have HD6 := Lib.hid (show St w0 W0 (blk fb (.cells #[.int .u16 (o.tag : Int), .int .i64 o.kind, .slice a n c] 53) * (own 53 3 (.slice (some ⟨b, off, none⟩) L.length cv) L.length (L.flatMap fldC) * G)) by rw [← hWW]; first | exact HST.out.drewN _ | exact (HST.out.drewN _).drewN _)
        clear hWW HST
        have HS6 := Lib.hid HD6.out.drew
        clear HD6
        refine wp_region_noPanic ?_
        refine region_till (S := fun W : World => St w0 W (blk fb (.cells #[.int .u16 (o.tag : Int), .int .i64 o.kind, .slice a n c] 53) * (own 53 3 (.slice (some ⟨b, off, none⟩) L.length cv) L.length (L.flatMap fldC) * G))) (k := 6) (by kernel_rfl) ?_
        have hS := HS6.out
        refine till_take (i := 0) (oi := ?_) (v := ?_) ?_ (by kernel_rfl) (by kernel_rfl) (by kernel_rfl) (by kernel_rfl) (by kernel_rfl) (fun _ _ _ h => h.elim) (by assumption) (.inl ⟨?_, fun w hSw => ?_⟩) ?_
        rotate_left 2
        · (simp only [List.getElem?_toArray, List.getElem?_cons_succ, List.getElem?_cons_zero]; rfl)
        · rfl
        · (have hc0 : w.cell? ⟨fb, 0, none⟩ = some (.int .u16 (o.tag : Int)) := hSw.cell 0 rfl; have hc1 : w.cell? ⟨fb, 1, none⟩ = some (.int .i64 o.kind) := hSw.cell 1 rfl; have hc2 : w.cell? ⟨fb, 2, none⟩ = some (.slice a n c) := hSw.cell 2 rfl; clear hSw; go_simp; try with_reducible rfl)
        simp only [Act.put, List.setIfInBounds_toArray, List.set_cons_zero, List.set_cons_succ]
        refine till_take0 (i := 2) (oi := ?_) (v := ?_) ?_ (by kernel_rfl) (by kernel_rfl) (by kernel_rfl) (by decide) (fun _ _ _ h => h.elim) (by assumption) (.inl ⟨?_, fun w => ?_⟩) ?_
        rotate_left 2
        · (simp only [List.getElem?_toArray, List.getElem?_cons_succ, List.getElem?_cons_zero]; rfl)
        · rfl
        · (go_simp; try with_reducible rfl)
        simp only [Act.put, List.setIfInBounds_toArray, List.set_cons_zero, List.set_cons_succ]
        refine till_take0 (i := 3) (oi := ?_) (v := ?_) ?_ (by kernel_rfl) (by kernel_rfl) (by kernel_rfl) (by decide) (fun _ _ _ h => h.elim) (by assumption) (.inl ⟨?_, fun w => ?_⟩) ?_
        rotate_left 2
        · (simp only [List.getElem?_toArray, List.getElem?_cons_succ, List.getElem?_cons_zero]; rfl)
        · rfl
        · (go_simp; try with_reducible rfl)
        simp only [Act.put, List.setIfInBounds_toArray, List.set_cons_zero, List.set_cons_succ]
        refine till_take0 (i := 4) (oi := ?_) (v := ?_) ?_ (by kernel_rfl) (by kernel_rfl) (by kernel_rfl) (by decide) (fun _ _ _ h => h.elim) (by assumption) (.inl ⟨?_, fun w => ?_⟩) ?_
        rotate_left 2
        · (simp only [List.getElem?_toArray, List.getElem?_cons_succ, List.getElem?_cons_zero]; rfl)
        · rfl
        · (go_simp; try with_reducible rfl)
        simp only [Act.put, List.setIfInBounds_toArray, List.set_cons_zero, List.set_cons_succ]
        clear hS
        generalize W0.drew = W5 at *
        refine till_one (i := 1) (by kernel_rfl) ?_
        refine wpOp_step (by rfl) fun K' hK => ?_
        have h8 := (HS6.out.alloc (.cells #[.int .u16 (o.tag : Int), .int .i64 o.kind, .slice a n c] 53)).own_blk (size := 3) (n := 1) (cap := 1) (xs := fldC (.slice a n c, o)) (Nat.le_refl _) (by decide) rfl rfl
        go_simp
        refine hK _ _ ⟨fun e => h8.right, ?_⟩
        clear hK K'
        have H8 := Lib.hid h8
        clear h8 HS6
        generalize W5.heap.size = g8 at *
        generalize World.alloc _ _ = W8 at *
        have TF := elemFld
        have hdr := Reads.dropI rfl H8.out.right.right.reads (k := k) (by omega)
        have hcv : k ≤ cv := by
          obtain ⟨_, ⟨e, _⟩ | ⟨x, c, e, g1, g2, _⟩⟩ := H8.out.right.right.reads
          · cases e
          · cases e; omega
        generalize (if cv = k then some (⟨b, off, none⟩ : Addr) else some ⟨b, off + k * 3, none⟩) = ad at hdr ⊢
        have HDR := Lib.hid hdr
        have HO1 := Lib.hid (ones_fld (M := L.drop k) (fun y hy => HON.out y (List.mem_of_mem_drop hy)))
        have HO2 := Lib.hid (ones_fld (M := L.take k) (fun y hy => HON.out y (List.mem_of_mem_take hy)))
        clear hdr
        refine till_one (i := 5) (by kernel_rfl) ?_
        refine wpOp_step (by rfl) fun K' hK => ?_
        refine step_append_L TF rfl _ _ rfl rfl (stl2 H8.out) 0 rfl (x := .slice ad (L.length - k) (cv - k)) rfl (m := L.length - k) (news := (L.drop k).flatMap fldC) HDR.out HO1.out (by unfold maxLen; omega) (by omega) fun v9 W9 h90 _ => ?_
        have h9 := stl2_out h90
        refine hK _ _ ⟨fun e => h9.right, ?_⟩
        clear hK K' h90 HDR H8
        refine till_one (i := 6) (by kernel_rfl) ?_
        refine wpOp_step (by rfl) fun K' hK => ?_
        go_simp
        refine hK _ _ ⟨fun e => (by first | exact absurd e (by decide) | (simp at e)), ?_⟩
        clear hK K'
        have H9 := Lib.hid h9
        clear h9
        refine ⟨(by kernel_rfl), NoPanic.normal ?_⟩
        go_wp2_with (at_builtin; apply stop)
        have HA := Lib.hid ((H9.out.alloc (.cells #[] 53)).own_blk (size := 3) (n := 0) (cap := 0) (xs := []) (Nat.le_refl _) (by decide) rfl rfl)
        have HTR := Lib.hid (show Reads (W9.alloc (.cells #[] 53)) 3 (.slice (some ⟨b, off, none⟩) k cv) k ((L.take k).flatMap fldC) by
          have := Reads.takeS HA.out.right.right.right.reads (k := k) (by omega)
          rw [flat_take] at this
          exact this)
        refine on (wpList_append_sep TF rfl _ _ rfl rfl HA.out rfl (m := k) (news := (L.take k).flatMap fldC) HTR.out HO2.out (by unfold maxLen; omega) (by omega) ?_)
        intro v10 W10 h10 _
        have H10 := Lib.hid h10
        clear h10 HA H9
        go_wp2_with (at_builtin; apply stop)
        have HX10 := Lib.hid H10.out.right.reads
        have HO3 := Lib.hid (show ∀ u ∈ fldC (.slice a n c, o) ++ (L.drop k).flatMap fldC, u.oneCell' = true from fun u hu => by
          rcases List.mem_append.1 hu with hu | hu
          · exact fldC_one u hu
          · exact HO1.out u hu)
        refine on (wpList_append_sep TF rfl _ _ rfl rfl H10.out rfl (m := 1 + (L.length - k)) (news := fldC (.slice a n c, o) ++ (L.drop k).flatMap fldC) HX10.out HO3.out (by unfold maxLen; omega) (by omega) ?_)
        intro v11 W11 h11 _
        have H11 := Lib.hid h11
        clear h11 H10 HX10
        go_wp2_with fail
        go_ret2
        rw [HLR.out, HBR.out, HD.out, if_neg (by decide)]
        have hi : insV (.slice a n c, o) L = L.take k ++ (.slice a n c, o) :: L.drop k := by unfold insV; rw [HSP.out.1, HSP.out.2]
        have hl : (insV (.slice a n c, o) L).length = 0 + k + (1 + (L.length - k)) := by rw [hi, List.length_append, List.length_cons, List.length_take, List.length_drop]; omega
        refine ⟨v11, rfl, ?_⟩
        rw [hl, hi, List.flatMap_append, List.flatMap_cons]
        have h := H11.out.perm (show _ = (own 53 3 v9 (1 + (L.length - k)) (fldC (.slice a n c, o) ++ (L.drop k).flatMap fldC) * (blk fb (.cells #[.int .u16 (o.tag : Int), .int .i64 o.kind, .slice a n c] 53) * own 53 3 (.slice (some ⟨b, off, none⟩) L.length cv) L.length (L.flatMap fldC))) * (own 53 3 v11 (0 + k + (1 + (L.length - k))) ([] ++ (L.take k).flatMap fldC ++ (fldC (.slice a n c, o) ++ (L.drop k).flatMap fldC)) * G) by ac_rfl)
        have h := h.right
        rw [List.nil_append] at h
        exact h
end Go.Proofs.Ythoegjdkeooenaa
