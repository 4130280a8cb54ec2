/-
  x, y, z = append(x, a), append(y, b), append(z, c): three rows grow in one statement, in whatever order. Program-independent.
-/
import Derived.Test.YtknelobnbpboiaaGreatDoorReg
namespace Go.Mz
open Go.RowKit
set_option linter.unusedVariables false
set_option linter.unusedSimpArgs false

/-- A row to which one more is put: as it was, or grown. -/
def apP (d : Bool) (e : TypeId) (va v : Value) (n : Nat) (xs : List Value) (y : Value) : SProp := if d then own e 1 v (n + 1) (xs ++ [y]) else own e 1 va n xs
/-- The slice of one that holds it. -/
def tmP (d : Bool) (e : TypeId) (u y : Value) : SProp := if d then own e 1 u 1 [y] else emp

/-- A row: its type, its elements' type, as it was, how long, what is in it, what is put to it. -/
structure Row3 where
  t : TypeId
  e : TypeId
  v : Value
  n : Nat
  xs : List Value
  y : Value
def Row3.ok (P : Program) (r : Row3) : Prop := (∃ bytes z, ElemT P r.t r.e 1 bytes z ∧ (r.n + 1) * bytes ≤ 140737488355328) ∧ r.n + 1 ≤ maxLen ∧ r.y.oneCell' = true

def L3 (r1 r2 r3 : Row3) (D F : SProp) (b1 b2 b3 : Bool) (c : Nat) (u1 u2 u3 v1 v2 v3 : Value) : List SProp :=
  [apP (decide (0 < c)) r1.e r1.v v1 r1.n r1.xs r1.y, apP (decide (1 < c)) r2.e r2.v v2 r2.n r2.xs r2.y, apP (decide (2 < c)) r3.e r3.v v3 r3.n r3.xs r3.y, D, F,
   tmP b1 r1.e u1 r1.y, tmP b2 r2.e u2 r2.y, tmP b3 r3.e u3 r3.y]

/-- Which operations may come up. -/
def next3 (i1 j1 i2 j2 i3 j3 : Nat) (b1 b2 b3 : Bool) (c : Nat) : List Nat :=
  (if b1 then [] else [i1]) ++ (if b1 && c == 0 then [j1] else []) ++ (if b2 then [] else [i2]) ++ (if b2 && c == 1 then [j2] else []) ++ (if b3 then [] else [i3]) ++ (if b3 && c == 2 then [j3] else [])
def ok3 (b1 b2 b3 : Bool) (c : Nat) : Bool := (c == 0 || b1) && (c ≤ 1 || b2) && (c ≤ 2 || b3) && c ≤ 3
def tab3 (ops : Array Oper) (i1 j1 i2 j2 i3 j3 : Nat) (lst : Bool → Bool → Bool → Nat → Array Bool) : Bool :=
  [false, true].all fun b1 => [false, true].all fun b2 => [false, true].all fun b3 => [0, 1, 2].all fun c => !ok3 b1 b2 b3 c ||
    ((Region.ready .any ops (lst b1 b2 b3 c) == next3 i1 j1 i2 j2 i3 j3 b1 b2 b3 c) &&
     (lst b1 b2 b3 c).setIfInBounds i1 true == lst true b2 b3 c && (lst b1 b2 b3 c).setIfInBounds i2 true == lst b1 true b3 c && (lst b1 b2 b3 c).setIfInBounds i3 true == lst b1 b2 true c &&
     (c != 0 || (lst b1 b2 b3 c).setIfInBounds j1 true == lst b1 b2 b3 1) && (c != 1 || (lst b1 b2 b3 c).setIfInBounds j2 true == lst b1 b2 b3 2) && (c != 2 || (lst b1 b2 b3 c).setIfInBounds j3 true == lst b1 b2 b3 3))

theorem tab3_spec {ops : Array Oper} {i1 j1 i2 j2 i3 j3 : Nat} {lst : Bool → Bool → Bool → Nat → Array Bool} (h : tab3 ops i1 j1 i2 j2 i3 j3 lst = true) {b1 b2 b3 : Bool} {c : Nat} (hc : c < 3) (hk : ok3 b1 b2 b3 c = true) :
    Region.ready .any ops (lst b1 b2 b3 c) = next3 i1 j1 i2 j2 i3 j3 b1 b2 b3 c ∧ (lst b1 b2 b3 c).setIfInBounds i1 true = lst true b2 b3 c ∧ (lst b1 b2 b3 c).setIfInBounds i2 true = lst b1 true b3 c ∧ (lst b1 b2 b3 c).setIfInBounds i3 true = lst b1 b2 true c ∧
      (c = 0 → (lst b1 b2 b3 c).setIfInBounds j1 true = lst b1 b2 b3 1) ∧ (c = 1 → (lst b1 b2 b3 c).setIfInBounds j2 true = lst b1 b2 b3 2) ∧ (c = 2 → (lst b1 b2 b3 c).setIfInBounds j3 true = lst b1 b2 b3 3) := by
  unfold tab3 at h
  rw [List.all_eq_true] at h
  have h := h b1 (by cases b1 <;> simp)
  rw [List.all_eq_true] at h
  have h := h b2 (by cases b2 <;> simp)
  rw [List.all_eq_true] at h
  have h := h b3 (by cases b3 <;> simp)
  rw [List.all_eq_true] at h
  have h := h c (by have : c = 0 ∨ c = 1 ∨ c = 2 := by omega
                    rcases this with rfl | rfl | rfl <;> simp)
  rw [hk] at h
  simp only [Bool.not_true, Bool.false_or, Bool.and_eq_true, beq_iff_eq, Bool.or_eq_true, bne_iff_ne, ne_eq] at h
  obtain ⟨⟨⟨⟨⟨⟨h1, h2⟩, h3⟩, h4⟩, h5⟩, h6⟩, h7⟩ := h
  exact ⟨h1, h2, h3, h4, fun e => h5.resolve_left (fun n => n e), fun e => h6.resolve_left (fun n => n e), fun e => h7.resolve_left (fun n => n e)⟩

section
variable {r1 r2 r3 : Row3} {D F : SProp} {b1 b2 b3 : Bool} {c : Nat} {u1 u2 u3 v1 v2 v3 : Value}
theorem L3_b1 (u : Value) : (L3 r1 r2 r3 D F false b2 b3 c u1 u2 u3 v1 v2 v3).set 5 (own r1.e 1 u 1 [r1.y]) = L3 r1 r2 r3 D F true b2 b3 c u u2 u3 v1 v2 v3 := by simp only [L3, List.set_cons_succ, List.set_cons_zero, tmP, if_pos]
theorem L3_b2 (u : Value) : (L3 r1 r2 r3 D F b1 false b3 c u1 u2 u3 v1 v2 v3).set 6 (own r2.e 1 u 1 [r2.y]) = L3 r1 r2 r3 D F b1 true b3 c u1 u u3 v1 v2 v3 := by simp only [L3, List.set_cons_succ, List.set_cons_zero, tmP, if_pos]
theorem L3_b3 (u : Value) : (L3 r1 r2 r3 D F b1 b2 false c u1 u2 u3 v1 v2 v3).set 7 (own r3.e 1 u 1 [r3.y]) = L3 r1 r2 r3 D F b1 b2 true c u1 u2 u v1 v2 v3 := by simp only [L3, List.set_cons_succ, List.set_cons_zero, tmP, if_pos]
theorem L3_a1 (v : Value) : (L3 r1 r2 r3 D F b1 b2 b3 0 u1 u2 u3 v1 v2 v3).set 0 (own r1.e 1 v (r1.n + 1) (r1.xs ++ [r1.y])) = L3 r1 r2 r3 D F b1 b2 b3 1 u1 u2 u3 v v2 v3 := by simp [L3, List.set_cons_succ, List.set_cons_zero, apP]
theorem L3_a2 (v : Value) : (L3 r1 r2 r3 D F b1 b2 b3 1 u1 u2 u3 v1 v2 v3).set 1 (own r2.e 1 v (r2.n + 1) (r2.xs ++ [r2.y])) = L3 r1 r2 r3 D F b1 b2 b3 2 u1 u2 u3 v1 v v3 := by simp [L3, List.set_cons_succ, List.set_cons_zero, apP]
theorem L3_a3 (v : Value) : (L3 r1 r2 r3 D F b1 b2 b3 2 u1 u2 u3 v1 v2 v3).set 2 (own r3.e 1 v (r3.n + 1) (r3.xs ++ [r3.y])) = L3 r1 r2 r3 D F b1 b2 b3 3 u1 u2 u3 v1 v2 v := by simp [L3, List.set_cons_succ, List.set_cons_zero, apP]
theorem L3_e1 : (L3 r1 r2 r3 D F false b2 b3 c u1 u2 u3 v1 v2 v3)[5]? = some emp := by simp [L3, tmP]
theorem L3_e2 : (L3 r1 r2 r3 D F b1 false b3 c u1 u2 u3 v1 v2 v3)[6]? = some emp := by simp [L3, tmP]
theorem L3_e3 : (L3 r1 r2 r3 D F b1 b2 false c u1 u2 u3 v1 v2 v3)[7]? = some emp := by simp [L3, tmP]
theorem L3_t1 : (L3 r1 r2 r3 D F true b2 b3 c u1 u2 u3 v1 v2 v3)[5]? = some (own r1.e 1 u1 1 [r1.y]) := by simp [L3, tmP]
theorem L3_t2 : (L3 r1 r2 r3 D F b1 true b3 c u1 u2 u3 v1 v2 v3)[6]? = some (own r2.e 1 u2 1 [r2.y]) := by simp [L3, tmP]
theorem L3_t3 : (L3 r1 r2 r3 D F b1 b2 true c u1 u2 u3 v1 v2 v3)[7]? = some (own r3.e 1 u3 1 [r3.y]) := by simp [L3, tmP]
theorem L3_r1 : (L3 r1 r2 r3 D F b1 b2 b3 0 u1 u2 u3 v1 v2 v3)[0]? = some (own r1.e 1 r1.v r1.n r1.xs) := by simp [L3, apP]
theorem L3_r2 : (L3 r1 r2 r3 D F b1 b2 b3 1 u1 u2 u3 v1 v2 v3)[1]? = some (own r2.e 1 r2.v r2.n r2.xs) := by simp [L3, apP]
theorem L3_r3 : (L3 r1 r2 r3 D F b1 b2 b3 2 u1 u2 u3 v1 v2 v3)[2]? = some (own r3.e 1 r3.v r3.n r3.xs) := by simp [L3, apP]
theorem L3_D : (L3 r1 r2 r3 D F b1 b2 b3 c u1 u2 u3 v1 v2 v3)[3]? = some D := by simp [L3]
end

section
variable {P : Program} {ops : Array Oper} {Q : Exit → Act → World → Prop} {S : World → Prop} {k fuel : Nat} {w0 : World} {F D : SProp}

theorem build_L {w : World} {l : List SProp} {i : Nat} (h : StL w0 w l) (hi : l[i]? = some emp) (e : TypeId) (y : Value) :
    StL w0 (w.alloc (.cells #[y] e)) (l.set i (own e 1 (.slice (some ⟨w.heap.size, 0, none⟩) 1 1) 1 [y])) := by
  refine h.upd hi fun F hF => ?_
  rw [emp_star] at hF
  exact hF.lit #[y] e 1 rfl (by decide)

/-- A step that makes the slice of one. -/
def Builds (P : Program) (ops : Array Oper) (Q : Exit → Act → World → Prop) (fr : Value → Act) (i : Nat) (r : Row3) : Prop :=
  ∀ u w (K : Act → World → Prop), K (fr (.slice (some ⟨w.heap.size, 0, none⟩) 1 1)) (w.alloc (.cells #[r.y] r.e)) → wpOp P ops Q i K (fr u) w
/-- A step that appends. -/
def Appends (ops : Array Oper) (r : Row3) (fr : Value → Value → Act) (j : Nat) : Prop :=
  ∃ (o : Oper) (s y : Operand), ops[j]? = some o ∧ o.guard = none ∧ o.op = .call { callee := .builtin .append, args := #[s, y], argTypes := #[r.t, r.t] } ∧
    (∀ u v, (fr u v).eval s = r.v ∧ (fr u v).eval y = u ∧ ∀ v', (fr u v).put o.dst v' = fr u v')

theorem appends_L {r : Row3} {fr : Value → Value → Act} {j : Nat} (ha : Appends ops r fr j) (hr : r.ok P) {w : World} {l : List SProp} {i m : Nat} {u v : Value} (h : StL w0 w l) (hi : l[i]? = some (own r.e 1 r.v r.n r.xs)) (hm : l[m]? = some (own r.e 1 u 1 [r.y]))
    {K : Act → World → Prop} (hK : ∀ v' w', StL w0 w' (l.set i (own r.e 1 v' (r.n + 1) (r.xs ++ [r.y]))) → Reads w' 1 r.v r.n r.xs → K (fr u v') w') : wpOp P ops Q j K (fr u v) w := by
  obtain ⟨o, s, y, ho, hg, hop, hf⟩ := ha
  obtain ⟨⟨bytes, z, T, hb⟩, h63, h1⟩ := hr
  refine wpOp_step ho fun K' hK' => ?_
  obtain ⟨e1, e2, e3⟩ := hf u v
  exact step_append_L T hg s y hop e1 h i hi e2 (h.reads hm) (fun x hx => by simp only [List.mem_singleton] at hx; subst hx; exact h1) h63 hb fun v' w' h' hrd => hK' _ _ (by rw [e3]; exact hK v' w' h' hrd)

theorem append3 (r1 r2 r3 : Row3) (ok1 : r1.ok P) (ok2 : r2.ok P) (ok3' : r3.ok P) (i1 j1 i2 j2 i3 j3 : Nat) (lst : Bool → Bool → Bool → Nat → Array Bool) (htab : tab3 ops i1 j1 i2 j2 i3 j3 lst = true)
    (fr : Value → Value → Value → Value → Value → Value → Act)
    (hb1 : ∀ u2 u3 v1 v2 v3, Builds P ops Q (fun u => fr u u2 u3 v1 v2 v3) i1 r1) (hb2 : ∀ u1 u3 v1 v2 v3, Builds P ops Q (fun u => fr u1 u u3 v1 v2 v3) i2 r2) (hb3 : ∀ u1 u2 v1 v2 v3, Builds P ops Q (fun u => fr u1 u2 u v1 v2 v3) i3 r3)
    (ha1 : ∀ u2 u3 v2 v3, Appends ops r1 (fun u v => fr u u2 u3 v v2 v3) j1) (ha2 : ∀ u1 u3 v1 v3, Appends ops r2 (fun u v => fr u1 u u3 v1 v v3) j2) (ha3 : ∀ u1 u2 v1 v2, Appends ops r3 (fun u v => fr u1 u2 u v1 v2 v) j3)
    (hS : ∀ w A, St w0 w (D * A) → Reads w 1 r3.v r3.n r3.xs → S w)
    (hend : ∀ u1 u2 u3 v1 v2 v3 w, StL w0 w (L3 r1 r2 r3 D F true true true 3 u1 u2 u3 v1 v2 v3) → anyTill P .any ops Q S k fuel (lst true true true 3) (fr u1 u2 u3 v1 v2 v3) w) :
    ∀ (m : Nat) (b1 b2 b3 : Bool) (c : Nat) u1 u2 u3 v1 v2 v3 w, ok3 b1 b2 b3 c = true → m = (3 - c) + ((if b1 then 0 else 1) + (if b2 then 0 else 1) + (if b3 then 0 else 1)) →
      StL w0 w (L3 r1 r2 r3 D F b1 b2 b3 c u1 u2 u3 v1 v2 v3) → anyTill P .any ops Q S k (fuel + m) (lst b1 b2 b3 c) (fr u1 u2 u3 v1 v2 v3) w := by
  intro m
  induction m with
  | zero =>
    intro b1 b2 b3 c u1 u2 u3 v1 v2 v3 w hk hm h
    have hc : c = 3 := by
      simp only [ok3, Bool.and_eq_true, decide_eq_true_eq] at hk
      omega
    subst hc
    cases b1 <;> cases b2 <;> cases b3 <;> simp at hm
    exact hend _ _ _ _ _ _ _ h
  | succ m ih =>
    intro b1 b2 b3 c u1 u2 u3 v1 v2 v3 w hk hm h
    have hc : c < 3 := by
      have : c ≤ 3 := by simp only [ok3, Bool.and_eq_true, decide_eq_true_eq] at hk; omega
      rcases Nat.lt_or_ge c 3 with h | h
      · exact h
      · obtain rfl : c = 3 := by omega
        cases b1 <;> cases b2 <;> cases b3 <;> simp [ok3] at hk hm
    obtain ⟨t1, t2, t3, t4, t5, t6, t7⟩ := tab3_spec htab hc hk
    have hSL : ∀ {b1 b2 b3 c u1 u2 u3 v1 v2 v3 w}, c < 3 → StL w0 w (L3 r1 r2 r3 D F b1 b2 b3 c u1 u2 u3 v1 v2 v3) → S w := by
      intro b1 b2 b3 c u1 u2 u3 v1 v2 v3 w hc h
      obtain ⟨A, hA⟩ := h.at_ L3_D
      have h2 : (L3 r1 r2 r3 D F b1 b2 b3 c u1 u2 u3 v1 v2 v3)[2]? = some (own r3.e 1 r3.v r3.n r3.xs) := by
        have : ¬ 2 < c := by omega
        simp [L3, apP, this]
      exact hS w A hA (h.reads h2)
    refine till_all t1 ?_ ?_
    · have : c = 0 ∨ c = 1 ∨ c = 2 := by omega
      rcases this with rfl | rfl | rfl <;> cases b1 <;> cases b2 <;> cases b3 <;> simp [ok3] at hk <;> simp [next3]
    intro i hi
    simp only [next3, List.mem_append] at hi
    rcases hi with ((((hi | hi) | hi) | hi) | hi) | hi
    · cases b1
      · simp at hi
        subst hi
        rw [t2]
        refine hb1 u2 u3 v1 v2 v3 u1 w _ ?_
        have h' := build_L h L3_e1 r1.e r1.y
        rw [L3_b1] at h'
        exact ⟨fun _ => hSL hc h', ih true b2 b3 c _ u2 u3 v1 v2 v3 _ (by revert hk; simp only [ok3]; cases b2 <;> cases b3 <;> simp <;> omega) (by simp at hm ⊢; omega) h'⟩
      · simp at hi
    · cases b1
      · simp at hi
      · have hc0 : c = 0 := by
          by_cases h0 : c = 0
          · exact h0
          · simp [h0] at hi
        subst hc0
        simp at hi
        subst hi
        rw [t5 rfl]
        refine appends_L (ha1 u2 u3 v2 v3) ok1 h L3_r1 L3_t1 fun v' w' h' hrd => ?_
        rw [L3_a1] at h'
        exact ⟨fun _ => hSL (c := 1) (by omega) h', ih true b2 b3 1 u1 u2 u3 v' v2 v3 w' (by revert hk; simp only [ok3]; cases b2 <;> cases b3 <;> simp) (by simp at hm ⊢; omega) h'⟩
    · cases b2
      · simp at hi
        subst hi
        rw [t3]
        refine hb2 u1 u3 v1 v2 v3 u2 w _ ?_
        have h' := build_L h L3_e2 r2.e r2.y
        rw [L3_b2] at h'
        exact ⟨fun _ => hSL hc h', ih b1 true b3 c u1 _ u3 v1 v2 v3 _ (by revert hk; simp only [ok3]; cases b1 <;> cases b3 <;> simp <;> omega) (by simp at hm ⊢; omega) h'⟩
      · simp at hi
    · cases b2
      · simp at hi
      · have hc0 : c = 1 := by
          by_cases h0 : c = 1
          · exact h0
          · simp [h0] at hi
        subst hc0
        simp at hi
        subst hi
        rw [t6 rfl]
        refine appends_L (ha2 u1 u3 v1 v3) ok2 h L3_r2 L3_t2 fun v' w' h' hrd => ?_
        rw [L3_a2] at h'
        exact ⟨fun _ => hSL (c := 2) (by omega) h', ih b1 true b3 2 u1 u2 u3 v1 v' v3 w' (by revert hk; simp only [ok3]; cases b1 <;> cases b3 <;> simp) (by simp at hm ⊢; omega) h'⟩
    · cases b3
      · simp at hi
        subst hi
        rw [t4]
        refine hb3 u1 u2 v1 v2 v3 u3 w _ ?_
        have h' := build_L h L3_e3 r3.e r3.y
        rw [L3_b3] at h'
        exact ⟨fun _ => hSL hc h', ih b1 b2 true c u1 u2 _ v1 v2 v3 _ (by revert hk; simp only [ok3]; cases b1 <;> cases b2 <;> simp <;> omega) (by simp at hm ⊢; omega) h'⟩
      · simp at hi
    · cases b3
      · simp at hi
      · have hc0 : c = 2 := by
          by_cases h0 : c = 2
          · exact h0
          · simp [h0] at hi
        subst hc0
        simp at hi
        subst hi
        rw [t7 rfl]
        refine appends_L (ha3 u1 u2 v1 v2) ok3' h L3_r3 L3_t3 fun v' w' h' hrd => ?_
        rw [L3_a3] at h'
        refine ⟨fun _ => ?_, ih b1 b2 true 3 u1 u2 u3 v1 v2 v' w' (by revert hk; simp only [ok3]; cases b1 <;> cases b2 <;> simp) (by simp at hm ⊢; omega) h'⟩
        obtain ⟨A, hA⟩ := h'.at_ L3_D
        exact hS w' A hA hrd
end
#print axioms append3
/-- The frame with the six slots laid anew. -/
def fr6 (a : Act) (d1 d2 d3 e1 e2 e3 : Nat) (u1 u2 u3 v1 v2 v3 : Value) : Act :=
  { a with tmps := (((((a.tmps.setIfInBounds d1 u1).setIfInBounds d2 u2).setIfInBounds d3 u3).setIfInBounds e1 v1).setIfInBounds e2 v2).setIfInBounds e3 v3 }
theorem set_getD (t : Array Value) (i : Nat) : t.setIfInBounds i (t.getD i undef) = t := by
  apply Array.ext
  · simp
  · intro j h1 h2
    rw [Array.getElem_setIfInBounds]
    split
    · rename_i e
      subst e
      simp [Array.getD, h2]
    · rfl
theorem fr6_self (a : Act) (d1 d2 d3 e1 e2 e3 : Nat) : fr6 a d1 d2 d3 e1 e2 e3 (a.tmps.getD d1 undef) (a.tmps.getD d2 undef) (a.tmps.getD d3 undef) (a.tmps.getD e1 undef) (a.tmps.getD e2 undef) (a.tmps.getD e3 undef) = a := by
  simp only [fr6, set_getD]
def ls6 (l : Array Bool) (i1 j1 i2 j2 i3 j3 : Nat) (b1 b2 b3 : Bool) (c : Nat) : Array Bool :=
  (((((l.setIfInBounds i1 b1).setIfInBounds i2 b2).setIfInBounds i3 b3).setIfInBounds j1 (decide (0 < c))).setIfInBounds j2 (decide (1 < c))).setIfInBounds j3 (decide (2 < c))
theorem append3_at {P : Program} {ops : Array Oper} {Q : Exit → Act → World → Prop} {S : World → Prop} {k fuel : Nat} {w0 : World} {F D : SProp} {listed : Array Bool} {a : Act} {w : World}
    (r1 r2 r3 : Row3) (i1 j1 i2 j2 i3 j3 d1 d2 d3 e1 e2 e3 : Nat) (hl : ls6 listed i1 j1 i2 j2 i3 j3 false false false 0 = listed)
    (htab : tab3 ops i1 j1 i2 j2 i3 j3 (ls6 listed i1 j1 i2 j2 i3 j3) = true)
    (ok1 : r1.ok P) (ok2 : r2.ok P) (ok3' : r3.ok P)
    (hb1 : ∀ u2 u3 v1 v2 v3, Builds P ops Q (fun u => fr6 a d1 d2 d3 e1 e2 e3 u u2 u3 v1 v2 v3) i1 r1) (hb2 : ∀ u1 u3 v1 v2 v3, Builds P ops Q (fun u => fr6 a d1 d2 d3 e1 e2 e3 u1 u u3 v1 v2 v3) i2 r2) (hb3 : ∀ u1 u2 v1 v2 v3, Builds P ops Q (fun u => fr6 a d1 d2 d3 e1 e2 e3 u1 u2 u v1 v2 v3) i3 r3)
    (ha1 : ∀ u2 u3 v2 v3, Appends ops r1 (fun u v => fr6 a d1 d2 d3 e1 e2 e3 u u2 u3 v v2 v3) j1) (ha2 : ∀ u1 u3 v1 v3, Appends ops r2 (fun u v => fr6 a d1 d2 d3 e1 e2 e3 u1 u u3 v1 v v3) j2) (ha3 : ∀ u1 u2 v1 v2, Appends ops r3 (fun u v => fr6 a d1 d2 d3 e1 e2 e3 u1 u2 u v1 v2 v) j3)
    (hS : ∀ w A, St w0 w (D * A) → Reads w 1 r3.v r3.n r3.xs → S w)
    (hend : ∀ u1 u2 u3 v1 v2 v3 w, StL w0 w (L3 r1 r2 r3 D F true true true 3 u1 u2 u3 v1 v2 v3) → anyTill P .any ops Q S k fuel (ls6 listed i1 j1 i2 j2 i3 j3 true true true 3) (fr6 a d1 d2 d3 e1 e2 e3 u1 u2 u3 v1 v2 v3) w)
    (h0 : StL w0 w (L3 r1 r2 r3 D F false false false 0 undef undef undef undef undef undef)) : anyTill P .any ops Q S k (fuel + 6) listed a w := by
  have := append3 (fuel := fuel) (k := k) r1 r2 r3 ok1 ok2 ok3' i1 j1 i2 j2 i3 j3 (ls6 listed i1 j1 i2 j2 i3 j3) htab (fr6 a d1 d2 d3 e1 e2 e3) hb1 hb2 hb3 ha1 ha2 ha3 hS hend 6 false false false 0 (a.tmps.getD d1 undef) (a.tmps.getD d2 undef) (a.tmps.getD d3 undef) (a.tmps.getD e1 undef) (a.tmps.getD e2 undef) (a.tmps.getD e3 undef) w rfl rfl h0
  rwa [fr6_self, hl] at this
theorem till_one {P : Program} {ops : Array Oper} {Q : Exit → Act → World → Prop} {md : Region.Mode} {S : World → Prop} {k : Nat} {i fuel : Nat} {listed : Array Bool} {a : Act} {w : World} (hr : Region.ready md ops listed = [i])
    (h : wpOp P ops Q i (fun a' w' => ((listed.setIfInBounds i true).getD k false = false → S w') ∧ anyTill P md ops Q S k fuel (listed.setIfInBounds i true) a' w') a w) : anyTill P md ops Q S k (fuel + 1) listed a w :=
  till_all hr (by simp) fun j hj => by
    obtain rfl := List.mem_singleton.1 hj
    exact h
theorem prodL_append (l m : List SProp) : prodL (l ++ m) = prodL l * prodL m := by
  induction l with
  | nil => simp [prodL, emp_star]
  | cons A l ih => rw [List.cons_append, prodL, prodL, ih, star_assoc]
theorem StL.take {w0 w : World} {l1 l2 : List SProp} (h : StL w0 w (l1 ++ l2)) : StL w0 w l1 := (St.perm h (prodL_append l1 l2)).left
#print axioms append3_at
end Go.Mz
