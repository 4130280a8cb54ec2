/-
  Regions whose order is open: a phase of operations under any assertion of what is done already. Program-independent.
-/
import Derived.Test.YtknelobnbpboiaaGreatDoorPhase
import Derived.Laws.Tables
import Derived.Laws.Rows
namespace Go.Mz
open Go.RowKit
set_option linter.unusedVariables false
set_option linter.unusedSimpArgs false

/-- What is done already, and with what value. -/
def sgO (done : List Nat) (vs : Nat → Value) : Nat → Option Value := fun i => if i ∈ done then some (vs i) else none
def setO (σ : Nat → Option Value) (i : Nat) (v : Value) : Nat → Option Value := fun j => if j = i then some v else σ j
theorem sgO_congr {d m : List Nat} {vs : Nat → Value} (h : ∀ i, i ∈ d ↔ i ∈ m) : sgO d vs = sgO m vs := by
  funext i; unfold sgO; simp only [h]
theorem sgO_cons {d : List Nat} {vs : Nat → Value} {i : Nat} {v : Value} (h : i ∉ d) : setO (sgO d vs) i v = sgO (i :: d) (fun j => if j = i then v else vs j) := by
  funext j
  unfold setO sgO
  by_cases e : j = i
  · subst e; simp
  · simp [e]
section
variable {P : Program} {ops : Array Oper} {Q : Exit → Act → World → Prop} {md : Region.Mode} {S : World → Prop} {k : Nat}
variable {Inv : (Nat → Option Value) → World → Prop} {listed0 : Array Bool} {Φ : List Nat} {dst : Nat → Nat} {a0 : Act}
theorem till_phaseG_go (hSA : ∀ σ w, Inv σ w → S w) (hn : Φ.Nodup) (hb : phaseB md ops listed0 Φ = true) (hd : (Φ.map dst).Nodup)
    (hstep : ∀ i ∈ Φ, ∀ (σ : Nat → Option Value) (a : Act) (w : World) (K : Act → World → Prop), σ i = none → (∀ c ∈ Φ, waits md ops i c = true → (σ c).isSome = true) → a.tmps.size = a0.tmps.size → (∀ s, s ∉ Φ.map dst → a.eval (.tmp s) = a0.eval (.tmp s)) → (∀ c v, σ c = some v → dst c < a0.tmps.size → a.eval (.tmp (dst c)) = v) → Inv σ w →
      (∀ v w', Inv (setO σ i v) w' → K (a.put (some (dst i)) v) w') → wpOp P ops Q i K a w) {fuel : Nat}
    (hend : ∀ (vs : Nat → Value) (w : World), Inv (sgO Φ vs) w → anyTill P md ops Q S k fuel (setsR listed0 Φ) (putsR a0 (Φ.map fun i => (dst i, vs i))) w) :
    ∀ (n : Nat) (done todo : List Nat) (vs : Nat → Value) (w : World), todo.length = n → (done ++ todo).Perm Φ →
      (∀ i ∈ done, ∀ c, waits md ops i c = true → c ∈ Φ → c ∈ done) → Inv (sgO done vs) w →
      anyTill P md ops Q S k (fuel + n) (setsR listed0 done) (putsR a0 (done.map fun i => (dst i, vs i))) w := by
  unfold phaseB at hb
  rw [Bool.and_eq_true, List.all_eq_true, List.all_eq_true] at hb
  obtain ⟨hb1, hb2⟩ := hb
  have hlt : ∀ i ∈ Φ, i < listed0.size := fun i hi => by
    have := hb1 i hi
    rw [Bool.and_eq_true, Bool.not_eq_true'] at this
    rcases Nat.lt_or_ge i listed0.size with h | h
    · exact h
    · have h2 := this.1; simp [h] at h2
  intro n
  induction n with
  | zero =>
    intro done todo vs w hl hp hcl hS
    obtain rfl := List.eq_nil_of_length_eq_zero hl
    rw [List.append_nil] at hp
    have hnd := hp.symm.nodup hn
    have e2 : putsR a0 (done.map fun i => (dst i, vs i)) = putsR a0 (Φ.map fun i => (dst i, vs i)) := putsR_perm (hp.map _) (by
      rw [List.map_map]; exact (hp.map _).symm.nodup hd)
    rw [setsR_perm hp hnd, e2]
    rw [sgO_congr (fun i => ⟨fun h => hp.subset h, fun h => hp.symm.subset h⟩)] at hS
    exact hend vs w hS
  | succ n ih =>
    intro done todo vs w hl hp hcl hS
    have hnd : (done ++ todo).Nodup := hp.symm.nodup hn
    have hsub : ∀ i ∈ done, i ∈ Φ := fun i hi => hp.subset (List.mem_append_left _ hi)
    have hsubt : ∀ i ∈ todo, i ∈ Φ := fun i hi => hp.subset (List.mem_append_right _ hi)
    have hapart : ∀ i ∈ todo, i ∉ done := fun i hi hd => (List.nodup_append.1 hnd).2.2 i hd i hi rfl
    have hor : ∀ i ∈ Φ, i ∈ done ∨ i ∈ todo := fun i hi => List.mem_append.1 (hp.symm.subset hi)
    -- some operation of the phase is ready
    have hsome : ∃ i ∈ todo, i ∈ Region.ready md ops (setsR listed0 done) := by
      have key : ∀ m, ∀ i ∈ todo, i ≤ m → ∃ i ∈ todo, i ∈ Region.ready md ops (setsR listed0 done) := by
        intro m
        induction m with
        | zero =>
          intro i hi hm
          refine ⟨i, hi, mem_ready.2 ⟨?_, ?_⟩⟩
          · have := hb1 i (hsubt i hi)
            rw [Bool.and_eq_true, Bool.not_eq_true'] at this
            rw [setsR_other _ _ (hapart i hi)]; exact this.1
          · have := hb1 i (hsubt i hi)
            rw [Bool.and_eq_true] at this
            cases ho : ops[i]? with
            | none => rw [ho] at this; simp at this
            | some o =>
              refine ⟨o, rfl, fun e he hbe => ?_⟩
              rw [ho] at this
              have h2 := this.2
              simp only [Option.map_some, Option.getD_some] at h2
              have h3 := Array.all_eq_true'.1 h2 e he
              simp only [hbe, Bool.not_true, Bool.false_or, Bool.or_eq_true, Bool.and_eq_true, decide_eq_true_eq] at h3
              rcases h3 with h3 | h3
              · exact setsR_true _ h3 _
              · omega
        | succ m ihm =>
          intro i hi hm
          by_cases hex : ∃ o, ops[i]? = some o ∧ ∃ e ∈ o.after, Region.binds md e = true ∧ e.on ∈ todo
          · obtain ⟨o, ho, e, he, hbe, het⟩ := hex
            have := hb1 i (hsubt i hi)
            rw [Bool.and_eq_true, ho] at this
            have h2 := this.2
            simp only [Option.map_some, Option.getD_some] at h2
            have h3 := Array.all_eq_true'.1 h2 e he
            simp only [hbe, Bool.not_true, Bool.false_or, Bool.or_eq_true, Bool.and_eq_true, decide_eq_true_eq] at h3
            rcases h3 with h3 | h3
            · exfalso
              have := hb1 e.on (hsubt _ het)
              rw [Bool.and_eq_true, Bool.not_eq_true'] at this
              have h4 := this.1
              have := hlt e.on (hsubt _ het)
              simp [this] at h3 h4
              rw [h3] at h4; cases h4
            · exact ihm e.on het (by omega)
          · refine ⟨i, hi, mem_ready.2 ⟨?_, ?_⟩⟩
            · have := hb1 i (hsubt i hi)
              rw [Bool.and_eq_true, Bool.not_eq_true'] at this
              rw [setsR_other _ _ (hapart i hi)]; exact this.1
            · have := hb1 i (hsubt i hi)
              rw [Bool.and_eq_true] at this
              cases ho : ops[i]? with
              | none => rw [ho] at this; simp at this
              | some o =>
                refine ⟨o, rfl, fun e he hbe => ?_⟩
                rw [ho] at this
                have h2 := this.2
                simp only [Option.map_some, Option.getD_some] at h2
                have h3 := Array.all_eq_true'.1 h2 e he
                simp only [hbe, Bool.not_true, Bool.false_or, Bool.or_eq_true, Bool.and_eq_true, decide_eq_true_eq] at h3
                rcases h3 with h3 | h3
                · exact setsR_true _ h3 _
                · have hm : e.on ∈ Φ := by simpa using h3.1
                  rcases hor _ hm with h | h
                  · exact setsR_at _ _ (hlt _ hm) h
                  · exact absurd ⟨o, ho, e, he, hbe, h⟩ hex
      obtain ⟨i, hi⟩ : ∃ i, i ∈ todo := by
        cases todo with
        | nil => simp at hl
        | cons i t => exact ⟨i, List.mem_cons_self⟩
      exact key i i hi (Nat.le_refl _)
    refine ⟨fun h => (by obtain ⟨i, _, hi⟩ := hsome; rw [h] at hi; cases hi), fun i hi => ?_⟩
    obtain ⟨hiun, o, ho, hall⟩ := mem_ready.1 hi
    -- it is one of the phase
    have hiΦ : i ∈ Φ := by
      rcases Decidable.em (i ∈ Φ) with h | h
      · exact h
      exfalso
      have hlti : i < ops.size := (Array.getElem?_eq_some_iff.1 ho).1
      have h2 := hb2 i (List.mem_range.2 hlti)
      have hc : Φ.contains i = false := by simpa using h
      have hl0 : listed0.getD i true = false := by rw [← hiun, setsR_other _ _ fun hd => h (hsub i hd)]
      rw [hc, hl0, ho] at h2
      simp only [Bool.false_or, Option.map_some, Option.getD_some, Bool.or_eq_true] at h2
      rcases h2 with h2 | h2
      · obtain ⟨e, he, hb⟩ := Array.any_eq_true'.1 h2
        simp only [Bool.and_eq_true, Bool.not_eq_true'] at hb
        have h3 := hall e he hb.1.1
        rw [setsR_other _ _ (fun hd => by have := hsub _ hd; have h4 := hb.2; simp at h4; exact h4 this)] at h3
        rw [h3] at hb; exact absurd hb.1.2 (by simp)
      · obtain ⟨c, hct, hcr⟩ := hsome
        rw [List.all_eq_true] at h2
        have key : ∀ c ∈ Φ, waits md ops i c = true → c ∈ done := fun c hc hw => by
          obtain ⟨o', ho', e, he, hb, rfl⟩ := waits_spec hw
          rw [ho] at ho'; cases ho'
          rcases hor _ hc with h' | h'
          · exact h'
          · have h3 := hall e he hb
            have h4 := hb1 _ hc
            rw [Bool.and_eq_true, Bool.not_eq_true'] at h4
            have h5 := h4.1
            have := hlt _ hc
            rw [setsR_other _ _ (hapart _ h')] at h3
            simp [this] at h3 h5
            rw [h3] at h5; cases h5
        have h3 := h2 c (hsubt c hct)
        rw [Bool.or_eq_true] at h3
        rcases h3 with h3 | h3
        · exact hapart c hct (key c (hsubt c hct) h3)
        · obtain ⟨d, hdΦ, hb⟩ := List.any_eq_true.1 h3
          rw [Bool.and_eq_true] at hb
          exact hapart c hct (hcl d (key d hdΦ hb.2) c hb.1 (hsubt c hct))
    have hit : i ∈ todo := by
      rcases hor i hiΦ with h | h
      · rw [setsR_at _ _ (hlt i hiΦ) h] at hiun; cases hiun
      · exact h
    have hdone : ∀ c, waits md ops i c = true → c ∈ Φ → c ∈ done := fun c hw hc => by
      obtain ⟨o', ho', e, he, hb, rfl⟩ := waits_spec hw
      rw [ho] at ho'; cases ho'
      rcases hor _ hc with h' | h'
      · exact h'
      · have h3 := hall e he hb
        have h4 := hb1 _ hc
        rw [Bool.and_eq_true, Bool.not_eq_true'] at h4
        have h5 := h4.1
        have := hlt _ hc
        rw [setsR_other _ _ (hapart _ h')] at h3
        simp [this] at h3 h5
        rw [h3] at h5; cases h5
    have hd' : ((done.map fun i => (dst i, vs i)).map Prod.fst).Nodup := by
      rw [List.map_map]
      have h1 := (hp.map dst).symm.nodup hd
      rw [List.map_append, List.nodup_append] at h1
      exact h1.1
    refine hstep i hiΦ (sgO done vs) _ w _ (by unfold sgO; rw [if_neg (hapart i hit)]) (fun c hc hw => by unfold sgO; rw [if_pos (hdone c hw hc)]; rfl) (putsR_size _ _) (fun s hs => putsR_other _ fun x hx => ?_) (fun c v hc hcs => ?_) hS fun v w' hS' => ?_
    · obtain ⟨j, hj, rfl⟩ := List.mem_map.1 hx
      exact fun e => hs (List.mem_map.2 ⟨j, hsub j hj, e⟩)
    · unfold sgO at hc
      split at hc
      · obtain rfl := Option.some.inj hc
        rename_i hcd
        exact putsR_at a0 (x := (dst c, vs c)) hcs hd' (List.mem_map.2 ⟨c, hcd, rfl⟩)
      · cases hc
    · rw [sgO_cons (hapart i hit)] at hS'
      have hgo := ih (i :: done) (todo.erase i) (fun j => if j = i then v else vs j) w' (by rw [List.length_erase_of_mem hit, hl]; rfl) (by
          refine List.Perm.trans ?_ hp
          rw [List.cons_append]
          exact ((List.perm_cons_erase hit).append_left done |>.trans List.perm_middle).symm) (fun j hj c hw hc => by
          rcases List.mem_cons.1 hj with rfl | hj
          · exact List.mem_cons_of_mem _ (hdone c hw hc)
          · exact List.mem_cons_of_mem _ (hcl j hj c hw hc)) hS'
      rw [List.map_cons] at hgo
      simp only [if_pos] at hgo
      rw [List.map_congr_left (g := fun i => (dst i, vs i)) (fun j hj => by
          have : j ≠ i := fun e => hapart i hit (e ▸ hj)
          simp only [if_neg this])] at hgo
      exact ⟨fun _ => hSA _ _ hS', hgo⟩

/-- The slot of an operation; one that has none is given a slot beyond all. -/
def dstG (ops : Array Oper) (i : Nat) : Nat := ((ops[i]?).bind (·.dst)).getD (100000 + i)
theorem put_big {a : Act} {n d : Nat} (hn : a.tmps.size = n) (h : decide (n ≤ d) = true) (v : Value) : a.put (some d) v = a := by
  have h := of_decide_eq_true h
  unfold Act.put
  simp only
  rw [Array.setIfInBounds_eq_of_size_le (by omega)]
/-- One test of all that is fixed. -/
def phaseOk (md : Region.Mode) (ops : Array Oper) (listed0 : Array Bool) (Φ : List Nat) : Bool :=
  phaseB md ops listed0 Φ && decide Φ.Nodup && decide ((Φ.map (dstG ops)).Nodup)
theorem till_phaseG (Inv : (Nat → Option Value) → World → Prop) (Φ : List Nat) (sz : Nat) (hSA : ∀ σ w, Inv σ w → S w) (hb : phaseOk md ops listed0 Φ = true) (hsz : a0.tmps.size = sz)
    (hstep : ∀ i ∈ Φ, ∀ (σ : Nat → Option Value) (a : Act) (w : World) (K : Act → World → Prop), σ i = none → (∀ c ∈ Φ, waits md ops i c = true → (σ c).isSome = true) → a.tmps.size = sz → (∀ s, s ∉ Φ.map (dstG ops) → a.eval (.tmp s) = a0.eval (.tmp s)) → (∀ c v, σ c = some v → decide (dstG ops c < sz) = true → a.eval (.tmp (dstG ops c)) = v) → Inv σ w →
      (∀ v w', Inv (setO σ i v) w' → K (a.put (some (dstG ops i)) v) w') → wpOp P ops Q i K a w) (fuel : Nat) {n : Nat} (hn2 : n = fuel + Φ.length)
    {w : World} (h0 : Inv (fun _ => none) w)
    (hend : ∀ (vs : Nat → Value) (w : World), Inv (sgO Φ vs) w → anyTill P md ops Q S k fuel (setsR listed0 Φ) (putsR a0 (Φ.map fun i => (dstG ops i, vs i))) w) :
    anyTill P md ops Q S k n listed0 a0 w := by
  subst hn2 hsz
  unfold phaseOk at hb
  rw [Bool.and_eq_true, Bool.and_eq_true] at hb
  obtain ⟨⟨h1, h2⟩, h3⟩ := hb
  exact till_phaseG_go (dst := dstG ops) hSA (of_decide_eq_true h2) h1 (of_decide_eq_true h3) (fun i hi σ a w K h1 h2 h3 h4 h5 h6 h7 => hstep i hi σ a w K h1 h2 h3 h4 (fun c v hc hd => h5 c v hc (of_decide_eq_true hd)) h6 h7) hend Φ.length [] Φ (fun _ => undef) w rfl (List.Perm.refl _) (fun i hi => by cases hi) (by
    have e : sgO [] (fun _ => undef) = fun _ => none := by funext i; unfold sgO; simp
    rw [e]; exact h0)
#print axioms till_phaseG
theorem wpOp_runTo {i : Nat} {o : Oper} (hi : ops[i]? = some o) (hg : o.guard = none) {a : Act} {w w' : World} {v : Value} (hrun : (execOp a.eval o).run P w = .ok (.value v) w') {K : Act → World → Prop} (hK : K (a.put o.dst v) w') : wpOp P ops Q i K a w := by
  refine wpOp_step hi fun K' hK' => ?_
  have hw : Region.wanted o (yielded ops a.tmps) = true := by simp [Region.wanted, hg]
  rw [if_pos hw]
  unfold Oper.wp
  rw [hrun, Oper.upon_value]
  exact hK' _ _ hK
theorem wpOp_append {w0 w : World} {F : SProp} {t e : TypeId} {size bytes : Nat} {z : Value} (T : ElemT P t e size bytes z) {i : Nat} {o : Oper} (hi : ops[i]? = some o) (hg : o.guard = none) {a : Act} (s y : Operand)
    (ho : o.op = .call { callee := .builtin .append, args := #[s, y], argTypes := #[t, t] }) {v : Value} {n : Nat} {xs : List Value} (hs : a.eval s = v) (h : St w0 w (own e size v n xs * F)) {x : Value} {m : Nat} {news : List Value} (hy : a.eval y = x) (hx : Reads w size x m news) (h1 : ∀ u ∈ news, u.oneCell' = true)
    (h63 : n + m ≤ maxLen) (hbytes : (n + m) * bytes ≤ 140737488355328) {K : Act → World → Prop} (hK : ∀ v' w', St w0 w' (own e size v' (n + m) (xs ++ news) * F) → K (a.put o.dst v') w') : wpOp P ops Q i K a w := by
  obtain ⟨v', w', hr, h2, _⟩ := run_append_sep T o.type h hx h1 h63 hbytes
  refine wpOp_runTo hi hg (v := v') (w' := w') ?_ (hK v' w' h2)
  unfold execOp
  simp only [ho, resolve, invoke, builtin, Sem.run_bind, Sem.run_pure, Result.andThen_ok, List.map_toArray, List.map_cons, List.map_nil, hs, hy, hr]
theorem wpOp_store {w0 w : World} {F : SProp} {i : Nat} {o : Oper} (hi : ops[i]? = some o) (hg : o.guard = none) {a : Act} (ty : TypeId) (x y : Operand) (ho : o.op = .store ty x y)
    {g : Nat} {old cells : Array Value} {e : TypeId} (h : St w0 w (blk g (.cells old e) * F)) (hx : a.eval x = .pointer (some ⟨g, 0, none⟩)) (hy : a.eval y = .agg cells)
    (hsz : (P.info? ty).map (·.size) = some cells.size) (hold : old.size = cells.size) (h1 : cells.toList.all (·.oneCell') = true) {K : Act → World → Prop} (hK : K (a.put o.dst undef) (w.setRow g cells)) : wpOp P ops Q i K a w := by
  refine wpOp_step hi fun K' hK' => ?_
  have hw : Region.wanted o (yielded ops a.tmps) = true := by simp [Region.wanted, hg]
  rw [if_pos hw]
  exact wp_store_row ty x y ho g cells hx hy e old h.at_ hsz hold (by rw [← Array.all_toList]; exact h1) (hK' _ _ hK)
theorem exec_load_blkP {w0 w : World} {F : SProp} {o : Oper} {a : Act} (ty : TypeId) (x : Operand) (ho : o.op = .load ty x) {g : Nat} {cs : Array Value} {e : TypeId} {fr : Nat × Nat} (h : St w0 w (blk g (.cells cs e fr) * F)) (hx : a.eval x = .pointer (some ⟨g, 0, none⟩)) {d : TypeDesc}
    (hu : P.underlying ty = some d) (hd : (match d with | .struct _ | .array _ _ => true | _ => false) = true) (hi : (P.info? ty).map (·.size) = some cs.size) : (execOp a.eval o).run P w = .ok (.value (.agg cs)) w := by
  unfold execOp
  simp only [ho, hx, Instr.loadAt, Instr.sureAddr, Sem.run_bind, Sem.run_pure, Result.andThen_ok, run_loadVar_row w g e ty cs fr d h.at_ hu hd hi]
theorem exec_extract {w : World} {o : Oper} {a : Act} (x : Operand) (i : Nat) (ho : o.op = .extract x i) {xs : Array Value} (hx : a.eval x = .tuple xs) {v : Value} (hi : xs[i]? = some v) : (execOp a.eval o).run P w = .ok (.value v) w := by
  unfold execOp
  simp only [ho, hx, Instr.extract, hi]
  rfl
end
end Go.Mz
