/-
  Regions whose order is open: a phase of operations that each make a piece of memory of their own, or yield what hangs on one such piece; whatever their order, the pieces are there in the end. Program-independent.
-/
import Derived.Test.YtknelobnbpboiaaGreatDoorReg
import Derived.Great.Frames
import Derived.Great.BuildSlice
namespace Go.Mz
open Go.RowKit
set_option linter.unusedVariables false
set_option linter.unusedSimpArgs false

theorem star_emp (A : SProp) : A * emp = A := (star_comm A emp).trans (emp_star A)
/-- Values laid into slots: the head of the list last. -/
def putsR (a : Act) : List (Nat × Value) → Act
  | [] => a
  | x :: l => (putsR a l).put (some x.1) x.2
theorem putsR_perm {a : Act} {l m : List (Nat × Value)} (h : l.Perm m) : (l.map Prod.fst).Nodup → putsR a l = putsR a m := by
  induction h with
  | nil => intro _; rfl
  | cons x _ ih => intro hn; rw [List.map_cons, List.nodup_cons] at hn; rw [putsR, putsR, ih hn.2]
  | swap x y l =>
    intro hn
    rw [List.map_cons, List.map_cons, List.nodup_cons] at hn
    have hne : x.1 ≠ y.1 := fun e => hn.1 (by rw [← e]; exact List.mem_cons_self)
    rw [putsR, putsR, putsR, putsR, Act.put_comm _ _ _ (fun d hd h => hne (Option.some.inj (hd.trans h.symm)))]
  | trans h1 _ ih1 ih2 => intro hn; rw [ih1 hn, ih2 ((h1.map Prod.fst).nodup hn)]
theorem putsR_defers (a : Act) : ∀ l, (putsR a l).defers = a.defers
  | [] => rfl
  | x :: l => putsR_defers a l
theorem putsR_size (a : Act) : ∀ l, (putsR a l).tmps.size = a.tmps.size
  | [] => rfl
  | x :: l => by rw [putsR, Act.size_put, putsR_size a l]
theorem putsR_other (a : Act) {s : Nat} : ∀ {l : List (Nat × Value)}, (∀ x ∈ l, x.1 ≠ s) → (putsR a l).eval (.tmp s) = a.eval (.tmp s)
  | [], _ => rfl
  | x :: l, h => by rw [putsR, Act.eval_put_ne _ _ _ _ (h x List.mem_cons_self), putsR_other a fun y hy => h y (List.mem_cons_of_mem _ hy)]
theorem putsR_at (a : Act) {x : Nat × Value} (hx : x.1 < a.tmps.size) : ∀ {l : List (Nat × Value)}, (l.map Prod.fst).Nodup → x ∈ l → (putsR a l).eval (.tmp x.1) = x.2
  | y :: l, hn, h => by
    rw [List.map_cons, List.nodup_cons] at hn
    rcases List.mem_cons.1 h with rfl | h
    · exact Act.eval_put_same _ _ _ (by rw [putsR_size]; exact hx)
    · rw [putsR, Act.eval_put_ne _ _ _ _ (fun e => hn.1 (by rw [e]; exact List.mem_map_of_mem h)), putsR_at a hx hn.2 h]
def setsR (b : Array Bool) : List Nat → Array Bool
  | [] => b
  | i :: l => (setsR b l).setIfInBounds i true
theorem setsR_perm {b : Array Bool} {l m : List Nat} (h : l.Perm m) : l.Nodup → setsR b l = setsR b m := by
  induction h with
  | nil => intro _; rfl
  | cons x _ ih => intro hn; rw [setsR, setsR, ih (List.nodup_cons.1 hn).2]
  | swap x y l =>
    intro hn
    rw [List.nodup_cons] at hn
    rw [setsR, setsR, setsR, setsR, Array.setIfInBounds_comm _ _ (fun e => hn.1 (by rw [← e]; exact List.mem_cons_self))]
  | trans h1 _ ih1 ih2 => intro hn; rw [ih1 hn, ih2 (h1.nodup hn)]
theorem setsR_size (b : Array Bool) : ∀ l, (setsR b l).size = b.size
  | [] => rfl
  | i :: l => by rw [setsR, Array.size_setIfInBounds, setsR_size b l]
theorem setsR_other (b : Array Bool) (d : Bool) {j : Nat} : ∀ {l : List Nat}, j ∉ l → (setsR b l).getD j d = b.getD j d
  | [], _ => rfl
  | i :: l, h => by rw [setsR, getD_set_ne d (fun e => h (by rw [e]; exact List.mem_cons_self)), setsR_other b d fun hm => h (List.mem_cons_of_mem _ hm)]
theorem setsR_at (b : Array Bool) (d : Bool) {j : Nat} (hj : j < b.size) : ∀ {l : List Nat}, j ∈ l → (setsR b l).getD j d = true
  | i :: l, h => by
    rw [setsR]
    by_cases e : i = j
    · subst e; simp [setsR_size, hj]
    · rw [getD_set_ne d e]
      exact setsR_at b d hj ((List.mem_cons.1 h).resolve_left fun h' => e h'.symm)
theorem setsR_true (b : Array Bool) {j : Nat} (hj : b.getD j false = true) : ∀ l, (setsR b l).getD j false = true
  | [] => hj
  | i :: l => getD_set_true (setsR_true b hj l)
theorem prodL_perm {l m : List SProp} (h : l.Perm m) : prodL l = prodL m := by
  induction h with
  | nil => rfl
  | cons x _ ih => rw [prodL, prodL, ih]
  | swap x y l => rw [prodL, prodL, prodL, prodL, star_left_comm]
  | trans _ _ ih1 ih2 => rw [ih1, ih2]

section
variable {P : Program} {ops : Array Oper} {Q : Exit → Act → World → Prop} {md : Region.Mode} {S : World → Prop} {k : Nat}
/-- The operations of a phase may all be listed before any other that is left, in any order that their own edges allow. -/
def phaseB (md : Region.Mode) (ops : Array Oper) (listed : Array Bool) (Φ : List Nat) : Bool :=
  (Φ.all fun i => !listed.getD i true && (((ops[i]?).map fun o => o.after.all fun e => !Region.binds md e || listed.getD e.on false || (Φ.contains e.on && decide (e.on < i))).getD false)) &&
  ((List.range ops.size).all fun j => Φ.contains j || listed.getD j true || (((ops[j]?).map fun o => o.after.any fun e => Region.binds md e && !listed.getD e.on false && !Φ.contains e.on).getD false) ||
    Φ.all fun i => waits md ops j i || Φ.any fun c => waits md ops c i && waits md ops j c)

theorem waits_spec {j i : Nat} : waits md ops j i = true → ∃ o, ops[j]? = some o ∧ ∃ e ∈ o.after, Region.binds md e = true ∧ e.on = i := by
  intro h
  unfold waits at h
  cases ho : ops[j]? with
  | none => rw [ho] at h; simp at h
  | some o =>
    rw [ho] at h
    simp only [Option.map_some, Option.getD_some] at h
    obtain ⟨e, he, hb⟩ := Array.any_eq_true'.1 h
    simp only [Bool.and_eq_true, beq_iff_eq] at hb
    exact ⟨o, rfl, e, he, hb.1, hb.2⟩

variable {w0 : World} {A : SProp} {listed0 : Array Bool} {Φ : List Nat} {dst dep : Nat → Nat} {R : Nat → Value → Value → Prop} {Pc : Nat → Value → SProp} {a0 : Act}
theorem till_phase_go (hSA : ∀ w, St w0 w A → S w) (hn : Φ.Nodup) (hb : phaseB md ops listed0 Φ = true) (hd : (Φ.map dst).Nodup) (hsz : ∀ i ∈ Φ, dst i < a0.tmps.size)
    (hdep : ∀ i ∈ Φ, dep i = i ∨ (dep i ∈ Φ ∧ waits md ops i (dep i) = true))
    (hstep : ∀ i ∈ Φ, ∀ (a : Act) (w : World) (u : Value) (B : SProp) (K : Act → World → Prop), a.defers = a0.defers → (∀ s, s ∉ Φ.map dst → a.eval (.tmp s) = a0.eval (.tmp s)) → (dep i ≠ i → a.eval (.tmp (dst (dep i))) = u ∧ ∃ z, R (dep i) z u) → St w0 w (B * A) →
      (∀ v w', R i (if dep i = i then v else u) v → St w0 w' (Pc i v * (B * A)) → K (a.put (some (dst i)) v) w') → wpOp P ops Q i K a w) {fuel : Nat}
    (hend : ∀ (vs : Nat → Value) (w : World), (∀ i ∈ Φ, R i (vs (dep i)) (vs i)) → St w0 w (prodL (Φ.map fun i => Pc i (vs i)) * A) →
      anyTill P md ops Q S k fuel (setsR listed0 Φ) (putsR a0 (Φ.map fun i => (dst i, vs i))) w) :
    ∀ (n : Nat) (done todo : List Nat) (vs : Nat → Value) (w : World), todo.length = n → (done ++ todo).Perm Φ → (∀ i ∈ done, dep i ∈ done ∧ R i (vs (dep i)) (vs i)) →
      (∀ i ∈ done, ∀ c, waits md ops i c = true → c ∈ Φ → c ∈ done) → St w0 w (prodL (done.map fun i => Pc i (vs i)) * A) →
      anyTill P md ops Q S k (fuel + n) (setsR listed0 done) (putsR a0 (done.map fun i => (dst i, vs i))) w := by
  unfold phaseB at hb
  rw [Bool.and_eq_true, List.all_eq_true, List.all_eq_true] at hb
  obtain ⟨hb1, hb2⟩ := hb
  have hlt : ∀ i ∈ Φ, i < listed0.size := fun i hi => by
    have := hb1 i hi
    rw [Bool.and_eq_true, Bool.not_eq_true'] at this
    rcases Nat.lt_or_ge i listed0.size with h | h
    · exact h
    · have h2 := this.1; simp [h] at h2
  intro n
  induction n with
  | zero =>
    intro done todo vs w hl hp hR hcl hS
    obtain rfl := List.eq_nil_of_length_eq_zero hl
    rw [List.append_nil] at hp
    have hnd := hp.symm.nodup hn
    have e1 : prodL (done.map fun i => Pc i (vs i)) = prodL (Φ.map fun i => Pc i (vs i)) := prodL_perm (hp.map _)
    have e2 : putsR a0 (done.map fun i => (dst i, vs i)) = putsR a0 (Φ.map fun i => (dst i, vs i)) := putsR_perm (hp.map _) (by
      rw [List.map_map]; exact (hp.map _).symm.nodup hd)
    rw [setsR_perm hp hnd, e2]
    exact hend vs w (fun i hi => (hR i (hp.symm.subset hi)).2) (hS.perm (by rw [e1]))
  | succ n ih =>
    intro done todo vs w hl hp hR hcl hS
    have hnd : (done ++ todo).Nodup := hp.symm.nodup hn
    have hsub : ∀ i ∈ done, i ∈ Φ := fun i hi => hp.subset (List.mem_append_left _ hi)
    have hsubt : ∀ i ∈ todo, i ∈ Φ := fun i hi => hp.subset (List.mem_append_right _ hi)
    have hapart : ∀ i ∈ todo, i ∉ done := fun i hi hd => (List.nodup_append.1 hnd).2.2 i hd i hi rfl
    have hor : ∀ i ∈ Φ, i ∈ done ∨ i ∈ todo := fun i hi => List.mem_append.1 (hp.symm.subset hi)
    -- some operation of the phase is ready
    have hsome : ∃ i ∈ todo, i ∈ Region.ready md ops (setsR listed0 done) := by
      have key : ∀ m, ∀ i ∈ todo, i ≤ m → ∃ i ∈ todo, i ∈ Region.ready md ops (setsR listed0 done) := by
        intro m
        induction m with
        | zero =>
          intro i hi hm
          refine ⟨i, hi, mem_ready.2 ⟨?_, ?_⟩⟩
          · have := hb1 i (hsubt i hi)
            rw [Bool.and_eq_true, Bool.not_eq_true'] at this
            rw [setsR_other _ _ (hapart i hi)]; exact this.1
          · have := hb1 i (hsubt i hi)
            rw [Bool.and_eq_true] at this
            cases ho : ops[i]? with
            | none => rw [ho] at this; simp at this
            | some o =>
              refine ⟨o, rfl, fun e he hbe => ?_⟩
              rw [ho] at this
              have h2 := this.2
              simp only [Option.map_some, Option.getD_some] at h2
              have h3 := Array.all_eq_true'.1 h2 e he
              simp only [hbe, Bool.not_true, Bool.false_or, Bool.or_eq_true, Bool.and_eq_true, decide_eq_true_eq] at h3
              rcases h3 with h3 | h3
              · exact setsR_true _ h3 _
              · omega
        | succ m ihm =>
          intro i hi hm
          by_cases hex : ∃ o, ops[i]? = some o ∧ ∃ e ∈ o.after, Region.binds md e = true ∧ e.on ∈ todo
          · obtain ⟨o, ho, e, he, hbe, het⟩ := hex
            have := hb1 i (hsubt i hi)
            rw [Bool.and_eq_true, ho] at this
            have h2 := this.2
            simp only [Option.map_some, Option.getD_some] at h2
            have h3 := Array.all_eq_true'.1 h2 e he
            simp only [hbe, Bool.not_true, Bool.false_or, Bool.or_eq_true, Bool.and_eq_true, decide_eq_true_eq] at h3
            rcases h3 with h3 | h3
            · exfalso
              have := hb1 e.on (hsubt _ het)
              rw [Bool.and_eq_true, Bool.not_eq_true'] at this
              have h4 := this.1
              have := hlt e.on (hsubt _ het)
              simp [this] at h3 h4
              rw [h3] at h4; cases h4
            · exact ihm e.on het (by omega)
          · refine ⟨i, hi, mem_ready.2 ⟨?_, ?_⟩⟩
            · have := hb1 i (hsubt i hi)
              rw [Bool.and_eq_true, Bool.not_eq_true'] at this
              rw [setsR_other _ _ (hapart i hi)]; exact this.1
            · have := hb1 i (hsubt i hi)
              rw [Bool.and_eq_true] at this
              cases ho : ops[i]? with
              | none => rw [ho] at this; simp at this
              | some o =>
                refine ⟨o, rfl, fun e he hbe => ?_⟩
                rw [ho] at this
                have h2 := this.2
                simp only [Option.map_some, Option.getD_some] at h2
                have h3 := Array.all_eq_true'.1 h2 e he
                simp only [hbe, Bool.not_true, Bool.false_or, Bool.or_eq_true, Bool.and_eq_true, decide_eq_true_eq] at h3
                rcases h3 with h3 | h3
                · exact setsR_true _ h3 _
                · have hm : e.on ∈ Φ := by simpa using h3.1
                  rcases hor _ hm with h | h
                  · exact setsR_at _ _ (hlt _ hm) h
                  · exact absurd ⟨o, ho, e, he, hbe, h⟩ hex
      obtain ⟨i, hi⟩ : ∃ i, i ∈ todo := by
        cases todo with
        | nil => simp at hl
        | cons i t => exact ⟨i, List.mem_cons_self⟩
      exact key i i hi (Nat.le_refl _)
    refine ⟨fun h => (by obtain ⟨i, _, hi⟩ := hsome; rw [h] at hi; cases hi), fun i hi => ?_⟩
    obtain ⟨hiun, o, ho, hall⟩ := mem_ready.1 hi
    -- it is one of the phase
    have hiΦ : i ∈ Φ := by
      rcases Decidable.em (i ∈ Φ) with h | h
      · exact h
      exfalso
      have hlti : i < ops.size := (Array.getElem?_eq_some_iff.1 ho).1
      have h2 := hb2 i (List.mem_range.2 hlti)
      have hc : Φ.contains i = false := by simpa using h
      have hl0 : listed0.getD i true = false := by rw [← hiun, setsR_other _ _ fun hd => h (hsub i hd)]
      rw [hc, hl0, ho] at h2
      simp only [Bool.false_or, Option.map_some, Option.getD_some, Bool.or_eq_true] at h2
      rcases h2 with h2 | h2
      · obtain ⟨e, he, hb⟩ := Array.any_eq_true'.1 h2
        simp only [Bool.and_eq_true, Bool.not_eq_true'] at hb
        have h3 := hall e he hb.1.1
        rw [setsR_other _ _ (fun hd => by have := hsub _ hd; have h4 := hb.2; simp at h4; exact h4 this)] at h3
        rw [h3] at hb; exact absurd hb.1.2 (by simp)
      · obtain ⟨c, hct, hcr⟩ := hsome
        rw [List.all_eq_true] at h2
        have key : ∀ c ∈ Φ, waits md ops i c = true → c ∈ done := fun c hc hw => by
          obtain ⟨o', ho', e, he, hb, rfl⟩ := waits_spec hw
          rw [ho] at ho'; cases ho'
          rcases hor _ hc with h' | h'
          · exact h'
          · have h3 := hall e he hb
            have h4 := hb1 _ hc
            rw [Bool.and_eq_true, Bool.not_eq_true'] at h4
            have h5 := h4.1
            have := hlt _ hc
            rw [setsR_other _ _ (hapart _ h')] at h3
            simp [this] at h3 h5
            rw [h3] at h5; cases h5
        have h3 := h2 c (hsubt c hct)
        rw [Bool.or_eq_true] at h3
        rcases h3 with h3 | h3
        · exact hapart c hct (key c (hsubt c hct) h3)
        · obtain ⟨d, hdΦ, hb⟩ := List.any_eq_true.1 h3
          rw [Bool.and_eq_true] at hb
          exact hapart c hct (hcl d (key d hdΦ hb.2) c hb.1 (hsubt c hct))
    have hit : i ∈ todo := by
      rcases hor i hiΦ with h | h
      · rw [setsR_at _ _ (hlt i hiΦ) h] at hiun; cases hiun
      · exact h
    have hdone : ∀ c, waits md ops i c = true → c ∈ Φ → c ∈ done := fun c hw hc => by
      obtain ⟨o', ho', e, he, hb, rfl⟩ := waits_spec hw
      rw [ho] at ho'; cases ho'
      rcases hor _ hc with h' | h'
      · exact h'
      · have h3 := hall e he hb
        have h4 := hb1 _ hc
        rw [Bool.and_eq_true, Bool.not_eq_true'] at h4
        have h5 := h4.1
        have := hlt _ hc
        rw [setsR_other _ _ (hapart _ h')] at h3
        simp [this] at h3 h5
        rw [h3] at h5; cases h5
    have hd' : ((done.map fun i => (dst i, vs i)).map Prod.fst).Nodup := by
      rw [List.map_map]
      have h1 := (hp.map dst).symm.nodup hd
      rw [List.map_append, List.nodup_append] at h1
      exact h1.1
    refine hstep i hiΦ _ w (vs (dep i)) _ _ (putsR_defers _ _) (fun s hs => putsR_other _ fun x hx => ?_) (fun hne => ?_) hS fun v w' hRv hS' => ?_
    · obtain ⟨j, hj, rfl⟩ := List.mem_map.1 hx
      exact fun e => hs (List.mem_map.2 ⟨j, hsub j hj, e⟩)
    · have h1 := ((hdep i hiΦ).resolve_left hne)
      exact ⟨putsR_at a0 (x := (dst (dep i), vs (dep i))) (hsz _ h1.1) hd' (List.mem_map.2 ⟨dep i, hdone _ h1.2 h1.1, rfl⟩), _, (hR _ (hdone _ h1.2 h1.1)).2⟩
    · have hS2 : St w0 w' (prodL ((i :: done).map fun j => Pc j ((fun j => if j = i then v else vs j) j)) * A) := by
        refine hS'.perm ?_
        show _ = (Pc i (if i = i then v else vs i) * prodL (done.map fun j => Pc j (if j = i then v else vs j))) * A
        rw [if_pos rfl, star_assoc]
        congr 2
        congr 1
        exact List.map_congr_left fun j hj => by
          have : j ≠ i := fun e => hapart i hit (e ▸ hj)
          rw [if_neg this]
      have hgo := ih (i :: done) (todo.erase i) (fun j => if j = i then v else vs j) w' (by rw [List.length_erase_of_mem hit, hl]; rfl) (by
          refine List.Perm.trans ?_ hp
          rw [List.cons_append]
          exact ((List.perm_cons_erase hit).append_left done |>.trans List.perm_middle).symm) (fun j hj => by
          rcases List.mem_cons.1 hj with rfl | hj
          · rcases hdep j hiΦ with h | h
            · rw [h]
              refine ⟨List.mem_cons_self, ?_⟩
              rw [if_pos h] at hRv
              simp only [if_pos]
              exact hRv
            · have hm := hdone _ h.2 h.1
              have hne : dep j ≠ j := fun e => hapart j hit (e ▸ hm)
              refine ⟨List.mem_cons_of_mem _ hm, ?_⟩
              rw [if_neg hne] at hRv
              simp only [if_pos, if_neg hne]
              exact hRv
          · have h1 := hR j hj
            have hne : j ≠ i := fun e => hapart i hit (e ▸ hj)
            have hne2 : dep j ≠ i := fun e => hapart i hit (e ▸ h1.1)
            simp only [if_neg hne, if_neg hne2]
            exact ⟨List.mem_cons_of_mem _ h1.1, h1.2⟩) (fun j hj c hw hc => by
          rcases List.mem_cons.1 hj with rfl | hj
          · exact List.mem_cons_of_mem _ (hdone c hw hc)
          · exact List.mem_cons_of_mem _ (hcl j hj c hw hc)) hS2
      rw [List.map_cons] at hgo
      simp only [if_pos] at hgo
      rw [List.map_congr_left (g := fun i => (dst i, vs i)) (fun j hj => by
          have : j ≠ i := fun e => hapart i hit (e ▸ hj)
          simp only [if_neg this])] at hgo
      exact ⟨fun _ => hSA _ hS2.right, hgo⟩

theorem till_phase (hSA : ∀ w, St w0 w A → S w) (hn : Φ.Nodup) (hb : phaseB md ops listed0 Φ = true) (hd : (Φ.map dst).Nodup) (hsz : ∀ i ∈ Φ, dst i < a0.tmps.size)
    (hdep : ∀ i ∈ Φ, dep i = i ∨ (dep i ∈ Φ ∧ waits md ops i (dep i) = true))
    (hstep : ∀ i ∈ Φ, ∀ (a : Act) (w : World) (u : Value) (B : SProp) (K : Act → World → Prop), a.defers = a0.defers → (∀ s, s ∉ Φ.map dst → a.eval (.tmp s) = a0.eval (.tmp s)) → (dep i ≠ i → a.eval (.tmp (dst (dep i))) = u ∧ ∃ z, R (dep i) z u) → St w0 w (B * A) →
      (∀ v w', R i (if dep i = i then v else u) v → St w0 w' (Pc i v * (B * A)) → K (a.put (some (dst i)) v) w') → wpOp P ops Q i K a w) {fuel n : Nat} (hn2 : n = fuel + Φ.length)
    {w : World} (hS : St w0 w A)
    (hend : ∀ (vs : Nat → Value) (w : World), (∀ i ∈ Φ, R i (vs (dep i)) (vs i)) → St w0 w (prodL (Φ.map fun i => Pc i (vs i)) * A) →
      anyTill P md ops Q S k fuel (setsR listed0 Φ) (putsR a0 (Φ.map fun i => (dst i, vs i))) w) :
    anyTill P md ops Q S k n listed0 a0 w := by
  subst hn2
  exact till_phase_go hSA hn hb hd hsz hdep hstep hend Φ.length [] Φ (fun _ => undef) w rfl (List.Perm.refl _) (fun i hi => by cases hi) (fun i hi => by cases hi) (hS.perm (emp_star A).symm)
#print axioms till_phase

/-! ### Items -/
def dstOf (ops : Array Oper) (i : Nat) : Nat := ((ops[i]?).bind (·.dst)).getD 0
/-- An operation of a phase: its number, the one that it hangs on (itself: none), what its value is, what piece of memory it makes. -/
structure PItem where
  i : Nat
  dep : Nat
  R : Value → Value → Prop
  Pc : Value → SProp
def itemAt (its : List PItem) (i : Nat) : PItem := (its.find? fun t => t.i == i).getD ⟨i, i, fun _ _ => True, fun _ => emp⟩
theorem itemAt_mem {its : List PItem} (hn : (its.map PItem.i).Nodup) {t : PItem} (h : t ∈ its) : itemAt its t.i = t := by
  unfold itemAt
  induction its with
  | nil => cases h
  | cons x r ih =>
    rw [List.map_cons, List.nodup_cons] at hn
    rw [List.find?_cons]
    rcases List.mem_cons.1 h with rfl | h
    · simp
    · rw [show (x.i == t.i) = false by rw [beq_eq_false_iff_ne]; exact fun e => hn.1 (by rw [e]; exact List.mem_map_of_mem h)]
      exact ih hn.2 h
/-- What must be shown of one item. -/
def PItemOk (P : Program) (ops : Array Oper) (Q : Exit → Act → World → Prop) (w0 : World) (A : SProp) (its : List PItem) (dl : List Nat) (a0 : Act) (t : PItem) : Prop :=
  ∀ (a : Act) (w : World) (u : Value) (B : SProp) (K : Act → World → Prop), a.defers = a0.defers → (∀ s, s ∉ dl → a.eval (.tmp s) = a0.eval (.tmp s)) →
    (t.dep ≠ t.i → a.eval (.tmp (dstOf ops t.dep)) = u ∧ ∃ z, (itemAt its t.dep).R z u) → St w0 w (B * A) →
    (∀ v w', t.R (if t.dep = t.i then v else u) v → St w0 w' (t.Pc v * (B * A)) → K (a.put (some (dstOf ops t.i)) v) w') → wpOp P ops Q t.i K a w
theorem till_items {its : List PItem} {listed0 : Array Bool} {a0 : Act} {w0 : World} {A : SProp} (hSA : ∀ w, St w0 w A → S w) (hb : phaseB md ops listed0 (its.map PItem.i) = true) (hn : (its.map PItem.i).Nodup) (hd : (its.map fun t => dstOf ops t.i).Nodup) (hsz : ∀ t ∈ its, dstOf ops t.i < a0.tmps.size)
    (hdep : ∀ t ∈ its, t.dep = t.i ∨ (t.dep ∈ its.map PItem.i ∧ waits md ops t.i t.dep = true))
    (hstep : ∀ t ∈ its, PItemOk P ops Q w0 A its (its.map fun t => dstOf ops t.i) a0 t) (fuel : Nat) {n : Nat} (hn2 : n = fuel + its.length) {w : World} (hS : St w0 w A)
    (hend : ∀ (vs : Nat → Value) (w : World), (∀ t ∈ its, t.R (vs t.dep) (vs t.i)) → St w0 w (prodL (its.map fun t => t.Pc (vs t.i)) * A) →
      anyTill P md ops Q S k fuel (setsR listed0 (its.map PItem.i)) (putsR a0 (its.map fun t => (dstOf ops t.i, vs t.i))) w) :
    anyTill P md ops Q S k n listed0 a0 w := by
  have hat : ∀ t ∈ its, itemAt its t.i = t := fun t ht => itemAt_mem hn ht
  refine till_phase (Φ := its.map PItem.i) (dst := dstOf ops) (dep := fun i => (itemAt its i).dep) (R := fun i => (itemAt its i).R) (Pc := fun i => (itemAt its i).Pc) hSA hn hb (by rw [List.map_map]; exact hd) (fun i hi => ?_) (fun i hi => ?_) (fun i hi => ?_) (fuel := fuel) (by rw [List.length_map]; exact hn2) hS fun vs w hR hS => ?_
  · obtain ⟨t, ht, rfl⟩ := List.mem_map.1 hi
    exact hsz t ht
  · obtain ⟨t, ht, rfl⟩ := List.mem_map.1 hi
    simp only [hat t ht]
    exact hdep t ht
  · obtain ⟨t, ht, rfl⟩ := List.mem_map.1 hi
    simp only [hat t ht]
    rw [List.map_map]
    exact hstep t ht
  · have e1 : (its.map PItem.i).map (fun i => (itemAt its i).Pc (vs i)) = its.map fun t => t.Pc (vs t.i) := by
      rw [List.map_map]
      exact List.map_congr_left fun t ht => by simp only [Function.comp, hat t ht]
    rw [e1] at hS
    have h := hend vs w (fun t ht => by
      have := hR t.i (List.mem_map_of_mem ht)
      simp only [hat t ht] at this
      exact this) hS
    rw [List.map_map]
    exact h
def itemsB (md : Region.Mode) (ops : Array Oper) (listed0 : Array Bool) (ds : List (Nat × Nat)) (sz : Nat) : Bool :=
  phaseB md ops listed0 (ds.map (·.1)) && decide ((ds.map (·.1)).Nodup) && decide ((ds.map fun d => dstOf ops d.1).Nodup) &&
    ds.all (fun d => decide (dstOf ops d.1 < sz) && (d.2 == d.1 || ((ds.map (·.1)).contains d.2 && waits md ops d.1 d.2)))
theorem till_itemsB {its : List PItem} {listed0 : Array Bool} {a0 : Act} {w0 : World} {A : SProp} (hSA : ∀ w, St w0 w A → S w) (ds : List (Nat × Nat)) (dl : List Nat) (sz : Nat) (hds : its.map (fun t => (t.i, t.dep)) = ds) (hdl : its.map (fun t => dstOf ops t.i) = dl) (hb : itemsB md ops listed0 ds sz = true) (hsz : a0.tmps.size = sz)
    (hstep : ∀ t ∈ its, PItemOk P ops Q w0 A its dl a0 t) (fuel : Nat) {n : Nat} (hn2 : n = fuel + ds.length) {w : World} (hS : St w0 w A)
    (hend : ∀ (vs : Nat → Value) (w : World), (∀ t ∈ its, t.R (vs t.dep) (vs t.i)) → St w0 w (prodL (its.map fun t => t.Pc (vs t.i)) * A) →
      anyTill P md ops Q S k fuel (setsR listed0 (ds.map (·.1))) (putsR a0 (its.map fun t => (dstOf ops t.i, vs t.i))) w) :
    anyTill P md ops Q S k n listed0 a0 w := by
  subst hdl
  have e1 : ds.map (·.1) = its.map PItem.i := by rw [← hds, List.map_map]; rfl
  have e2 : (ds.map fun d => dstOf ops d.1) = its.map fun t => dstOf ops t.i := by rw [← hds, List.map_map]; rfl
  unfold itemsB at hb
  rw [Bool.and_eq_true, Bool.and_eq_true, Bool.and_eq_true, e1, e2] at hb
  obtain ⟨⟨⟨h1, h2⟩, h3⟩, h4⟩ := hb
  have h4' : ∀ t ∈ its, dstOf ops t.i < sz ∧ (t.dep = t.i ∨ (t.dep ∈ its.map PItem.i ∧ waits md ops t.i t.dep = true)) := fun t ht => by
    have := List.all_eq_true.1 h4 (t.i, t.dep) (by rw [← hds]; exact List.mem_map.2 ⟨t, ht, rfl⟩)
    simp only [Bool.and_eq_true, Bool.or_eq_true, decide_eq_true_eq, beq_iff_eq, List.contains_iff_mem] at this
    exact this
  rw [e1] at hend
  exact till_items hSA h1 (of_decide_eq_true h2) (of_decide_eq_true h3) (fun t ht => by rw [hsz]; exact (h4' t ht).1) (fun t ht => (h4' t ht).2) hstep fuel (by rw [hn2, ← hds, List.length_map]) hS hend
theorem map1 {α β : Type} (f : α → β) (x : α) : #[x].map f = #[f x] := by simp
theorem map3 {α β : Type} (f : α → β) (x y z : α) : #[x, y, z].map f = #[f x, f y, f z] := by simp
/-- A row of one element, whose value is known. -/
def PItem.row (e : TypeId) (i : Nat) (u : Value) : PItem := ⟨i, i, fun _ v => ∃ a c, v = .slice a 1 c, fun v => own e 1 v 1 [u]⟩
/-- A row of one element, that another item yields. -/
def PItem.rowOf (e : TypeId) (i j : Nat) (u : Value) : PItem := ⟨i, j, fun _ v => ∃ a c, v = .slice a 1 c, fun v => own e 1 v 1 [u]⟩
/-- A call whose value is known. -/
def PItem.call (i : Nat) (v0 : Value) : PItem := ⟨i, i, fun _ v => v = v0, fun _ => emp⟩
/-- A call whose value hangs on that of another item. -/
def PItem.callOf (i j : Nat) (f : Value → Value) : PItem := ⟨i, j, fun u v => v = f u, fun _ => emp⟩

theorem wpOp_row {t e : TypeId} {bytes : Nat} {z : Value} (T : ElemT P t e 1 bytes z) {w0 : World} {F : SProp} {i : Nat} {o : Oper} (hi : ops[i]? = some o) (hg : o.guard = none) (x : Operand) (hop : o.op = .buildSlice t 1 #[(0, x)])
    {a : Act} {w : World} {u : Value} (hx : a.eval x = u) (hu : u.oneCell' = true) (hS : St w0 w F) {K : Act → World → Prop} (hK : ∀ v w', St w0 w' (own e 1 v 1 [u] * F) → K (a.put o.dst v) w') : wpOp P ops Q i K a w := by
  refine wpOp_step hi fun K' hK' => ?_
  have hw : Region.wanted o (yielded ops a.tmps) = true := by simp [Region.wanted, hg]
  rw [if_pos hw]
  obtain ⟨ht, ⟨inf, hinf, hz, hs, hb⟩, hzs, hsz⟩ := T
  have hcell : u.cells = #[u] := by
    cases u <;> simp [Value.oneCell', Value.cells] at *
  refine wp_buildSlice t e 1 #[(0, x)] hop #[u] inf z ht hinf hz (by rw [hs]; omega) (by rw [hs]; omega) ?_ (hK' _ _ (hK _ _ ?_))
  · have hz1 : z.cells.size = 1 := hzs
    rw [hs]
    simp [Instr.fill, hx, hcell, show Array.range 1 = #[0] from rfl]
  · exact (hS.alloc _).own_blk (Nat.le_refl 1) (by decide) rfl rfl
theorem wpOp_callv {i : Nat} {o : Oper} (hi : ops[i]? = some o) (hg : o.guard = none) (x : Operand) (xs : Array Operand) (ts : Array TypeId) (hop : o.op = .call { callee := .value x, args := xs, argTypes := ts })
    {a : Act} {w : World} {f : FuncId} {args : Array Value} (hx : a.eval x = .func (.func f) #[] #[]) (hxs : xs.map a.eval = args) (hent : ∀ args w, (callFunc f args).run P w = .ok (.enter f args) w) {K : Act → World → Prop}
    (hC : Calls P f args w fun e w' => ∃ v, e = .returned v ∧ K (a.put o.dst v) w') : wpOp P ops Q i K a w := by
  refine wpOp_step hi fun K' hK' => ?_
  have hw : Region.wanted o (yielded ops a.tmps) = true := by simp [Region.wanted, hg]
  rw [if_pos hw]
  unfold Oper.wp execOp
  simp only [hop, resolve, hx, hxs, Deferred.ofValue, invoke, Sem.run_bind, Sem.run_pure, Result.andThen_ok, Array.empty_append, Array.append_empty, hent, Oper.upon]
  refine hC.mono ?_
  rintro e w' ⟨v, rfl, h⟩
  exact hK' _ _ h
section
variable {w0 : World} {A : SProp} {its : List PItem} {dl : List Nat} {a0 : Act}
theorem PItem.row_ok {t e : TypeId} {bytes : Nat} {z : Value} (T : ElemT P t e 1 bytes z) {i : Nat} {u : Value} {o : Oper} (hi : ops[i]? = some o) (hg : o.guard = none) (hd : o.dst = some (dstOf ops i)) (s : Nat) (hop : o.op = .buildSlice t 1 #[(0, .tmp s)])
    (hs : s ∉ dl) (hx : a0.eval (.tmp s) = u) (hu : u.oneCell' = true) : PItemOk P ops Q w0 A its dl a0 (PItem.row e i u) := by
  intro a w u' B K hdf hev hdep hS hK
  refine wpOp_row T hi hg (.tmp s) hop ((hev s hs).trans hx) hu hS fun v w' h => ?_
  rw [hd]
  exact hK v w' h.reads.sub h
theorem PItem.rowOf_ok {t e : TypeId} {bytes : Nat} {z : Value} (T : ElemT P t e 1 bytes z) {i j : Nat} {u : Value} {o : Oper} (hi : ops[i]? = some o) (hg : o.guard = none) (hd : o.dst = some (dstOf ops i)) (hop : o.op = .buildSlice t 1 #[(0, .tmp (dstOf ops j))])
    (hne : j ≠ i) (hj : ∀ z v, (itemAt its j).R z v → v = u) (hu : u.oneCell' = true) : PItemOk P ops Q w0 A its dl a0 (PItem.rowOf e i j u) := by
  intro a w u' B K hdf hev hdep hS hK
  obtain ⟨h1, z, h2⟩ := hdep hne
  obtain rfl := hj _ _ h2
  refine wpOp_row T hi hg (.tmp (dstOf ops j)) hop h1 hu hS fun v w' h => ?_
  rw [hd]
  exact hK v w' h.reads.sub h
theorem PItem.call_ok {i : Nat} {v0 : Value} {o : Oper} (hi : ops[i]? = some o) (hg : o.guard = none) (hd : o.dst = some (dstOf ops i)) {x : Nat} {xs : Array Operand} {ts : Array TypeId} (hop : o.op = .call { callee := .value (.tmp x), args := xs, argTypes := ts })
    {f : FuncId} {args : Array Value} (hxn : x ∉ dl) (hx : a0.eval (.tmp x) = .func (.func f) #[] #[]) (hent : ∀ args w, (callFunc f args).run P w = .ok (.enter f args) w)
    (hxs : ∀ a : Act, (∀ s, s ∉ dl → a.eval (.tmp s) = a0.eval (.tmp s)) → xs.map a.eval = args)
    (hC : ∀ (w : World) (B : SProp), St w0 w B → Calls P f args w fun e w' => e = .returned v0 ∧ St w0 w' B) : PItemOk P ops Q w0 A its dl a0 (PItem.call i v0) := by
  intro a w u' B K hdf hev hdep hS hK
  refine wpOp_callv hi hg (.tmp x) xs ts hop ((hev x hxn).trans hx) (hxs a hev) hent ((hC w _ hS).mono ?_)
  rintro e w' ⟨rfl, h⟩
  refine ⟨_, rfl, ?_⟩
  rw [hd]
  exact hK _ w' rfl (h.perm (emp_star _).symm)
theorem PItem.call_okF {i : Nat} {v0 : Value} {o : Oper} (hi : ops[i]? = some o) (hg : o.guard = none) (hd : o.dst = some (dstOf ops i)) {f : FuncId} {xs : Array Operand} {ts : Array TypeId} (hop : o.op = .call { callee := .value (.func f), args := xs, argTypes := ts })
    {args : Array Value} (hent : ∀ args w, (callFunc f args).run P w = .ok (.enter f args) w)
    (hxs : ∀ a : Act, (∀ s, s ∉ dl → a.eval (.tmp s) = a0.eval (.tmp s)) → xs.map a.eval = args)
    (hC : ∀ (w : World) (B : SProp), St w0 w B → Calls P f args w fun e w' => e = .returned v0 ∧ St w0 w' B) : PItemOk P ops Q w0 A its dl a0 (PItem.call i v0) := by
  intro a w u' B K hdf hev hdep hS hK
  refine wpOp_callv hi hg (.func f) xs ts hop rfl (hxs a hev) hent ((hC w _ hS).mono ?_)
  rintro e w' ⟨rfl, h⟩
  refine ⟨_, rfl, ?_⟩
  rw [hd]
  exact hK _ w' rfl (h.perm (emp_star _).symm)
theorem PItem.callOf_ok {i j : Nat} {g : Value → Value} {o : Oper} (hi : ops[i]? = some o) (hg : o.guard = none) (hd : o.dst = some (dstOf ops i)) {x : Nat} {xs : Array Operand} {ts : Array TypeId} (hop : o.op = .call { callee := .value (.tmp x), args := xs, argTypes := ts })
    {f : FuncId} {args : Value → Array Value} (hxn : x ∉ dl) (hx : a0.eval (.tmp x) = .func (.func f) #[] #[]) (hent : ∀ args w, (callFunc f args).run P w = .ok (.enter f args) w) (hne : j ≠ i)
    (hxs : ∀ (a : Act) (u : Value), (∀ s, s ∉ dl → a.eval (.tmp s) = a0.eval (.tmp s)) → a.eval (.tmp (dstOf ops j)) = u → xs.map a.eval = args u)
    (hC : ∀ (w : World) (B : SProp) (u : Value), (∃ z, (itemAt its j).R z u) → St w0 w B → Calls P f (args u) w fun e w' => e = .returned (g u) ∧ St w0 w' B) : PItemOk P ops Q w0 A its dl a0 (PItem.callOf i j g) := by
  intro a w u' B K hdf hev hdep hS hK
  obtain ⟨h1, h2⟩ := hdep hne
  refine wpOp_callv hi hg (.tmp x) xs ts hop ((hev x hxn).trans hx) (hxs a u' hev h1) hent ((hC w _ u' h2 hS).mono ?_)
  rintro e w' ⟨rfl, h⟩
  refine ⟨_, rfl, ?_⟩
  rw [hd]
  refine hK _ w' ?_ (h.perm (emp_star _).symm)
  show g u' = g (if j = i then _ else u')
  rw [if_neg hne]
end
#print axioms PItem.callOf_ok
end
end Go.Mz
