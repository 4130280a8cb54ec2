/-
  Layer 14: what a reader of a row by the row above it gives, in bounds; plain Lean.
-/
import Derived.Test.YtdjoigobmmaaiaaDoorMhR
import Derived.Test.YtdjoigobmmaaiaaDoorMhA
namespace Go.Proofs.YtdjoigobmmaaiaaDoor
open Go.RowKit Go.Mz
set_option linter.unusedVariables false
set_option linter.unusedSimpArgs false
set_option maxRecDepth 100000

theorem stepAg_bd {t top : List Nat} {width : Nat} (htp : top.Pairwise (· < ·)) (htb : ∀ x ∈ top, x < width) {p : Nat} {px : List Nat} {b : Bool} {at' : Int} {r : Nat × ((List Nat × Bool × Int) ⊕ Nat)} (h : stepAg t top width p px b at' = r) (hp : p ≤ t.length) (hpx : px.length ≤ width) (hb : Bit px) (hat : AtOk px at') (hlt : at' < width) :
    r.1 ≤ t.length ∧ (∀ x, r.2 = .inl x → x.1.length ≤ width ∧ Bit x.1 ∧ AtOk x.1 x.2.2) ∧ ∀ e, r.2 = .inr e → e ≠ 0 ∧ e < 100 := by
  subst h
  rw [stepAg]
  have nt := nextF_bd (at' := at') (toB := !b) (width := width) top true htp htb hlt
  have hmx : max at' 0 = (px.length : Int) := by
    rcases hat with ⟨rfl, rfl⟩ | rfl
    · rfl
    · omega
  generalize nextF true at' (!b) width top = c at *
  cases hr : readMd t p with
  | mk k y =>
    cases y with
    | inr er =>
      have := readMd_er hr hp
      exact ⟨this.1, fun x h => by simp at h, fun e h => by simp at h; omega⟩
    | inl m =>
      have hk := readMd_ok hr hp
      simp only
      by_cases h5 : m = 5
      · rw [if_pos h5]
        refine ⟨hk.2.1, fun x h => ?_, fun e h => by simp at h⟩
        simp only [Sum.inl.injEq] at h
        subst h
        exact ⟨by simp; omega, hb.append (bit_runP _ _), .inr (by simp; omega)⟩
      · rw [if_neg h5]
        by_cases h4 : m = 4
        · rw [if_pos h4]
          have h2 := twoF_bd (t := t) (width := width) [b, !b] k px _ rfl hk.2.1 hpx hb
          rw [← two_eq] at h2
          cases hq : two t width k px b with
          | mk k2 y2 =>
            rw [hq] at h2
            cases y2 with
            | inr e => exact ⟨h2.1, fun x h => by simp at h, fun e' h => by simp at h; subst h; exact h2.2.2 _ rfl⟩
            | inl px2 =>
              refine ⟨h2.1, fun x h => ?_, fun e h => by simp at h⟩
              simp only [Sum.inl.injEq] at h
              subst h
              have := h2.2.1 _ rfl
              exact ⟨this.2.2.1, this.2.2.2, .inr rfl⟩
        · rw [if_neg h4]
          split
          · exact ⟨hk.2.1, fun x h => by simp at h, fun e h => by simp at h; omega⟩
          · rename_i hb3
            refine ⟨hk.2.1, fun x h => ?_, fun e h => by simp at h⟩
            simp only [Sum.inl.injEq] at h
            subst h
            exact ⟨by simp; omega, hb.append (bit_runP _ _), .inr (by simp; omega)⟩

theorem rdAg_bd {t top : List Nat} {width : Nat} (htp : top.Pairwise (· < ·)) (htb : ∀ x ∈ top, x < width) (h1 : 1 ≤ width) : ∀ (f p : Nat) (px : List Nat) (b : Bool) (at' : Int) (r : Nat × (List Nat ⊕ Nat)), rdAg t top width f p px b at' = r → p ≤ t.length → px.length ≤ width → Bit px → AtOk px at' →
    r.1 ≤ t.length ∧ (∀ q, r.2 = .inl q → q.length = width ∧ Bit q) ∧ ∀ e, r.2 = .inr e → e ≠ 0 ∧ e < 100 := by
  intro f
  induction f with
  | zero => intro p px b at' r h hp _ _ _; rw [rdAg] at h; subst h; exact ⟨hp, fun q h => by simp at h, fun e h => by simp at h; omega⟩
  | succ f ih =>
    intro p px b at' r h hp hpx hb hat
    rw [rdAg] at h
    by_cases hlt : at' < (width : Int)
    · rw [if_pos hlt] at h
      cases hs : stepAg t top width p px b at' with
      | mk k y =>
        have hbd := stepAg_bd htp htb hs hp hpx hb hat hlt
        rw [hs] at h
        cases y with
        | inr e => simp only at h; subst h; exact ⟨hbd.1, fun q h => by simp at h, fun e' h => by simp at h; subst h; exact hbd.2.2 _ rfl⟩
        | inl x =>
          have := hbd.2.1 _ rfl
          exact ih _ _ _ _ _ h hbd.1 this.1 this.2.1 this.2.2
    · rw [if_neg hlt] at h
      subst h
      refine ⟨hp, fun q h => ?_, fun e h => by simp at h⟩
      simp only [Sum.inl.injEq] at h
      subst h
      exact ⟨by rcases hat with ⟨rfl, rfl⟩ | rfl <;> omega, hb⟩
theorem readAg_bd {t top : List Nat} {width p : Nat} (htp : top.Pairwise (· < ·)) (htb : ∀ x ∈ top, x < width) (h1 : 1 ≤ width) (hp : p ≤ t.length) :
    (readAg t top width p).1 ≤ t.length ∧ (∀ q, (readAg t top width p).2 = .inl q → q.length = width ∧ Bit q) ∧ ∀ e, (readAg t top width p).2 = .inr e → e ≠ 0 ∧ e < 100 :=
  rdAg_bd htp htb h1 _ _ _ _ _ _ rfl hp (by simp) bit_nil (.inl ⟨rfl, rfl⟩)
theorem readRow_bd {t : List Nat} {width p : Nat} (hp : p ≤ t.length) :
    (readRow t width p).1 ≤ t.length ∧ (∀ q, (readRow t width p).2 = .inl q → q.length = width ∧ Bit q) ∧ ∀ e, (readRow t width p).2 = .inr e → e ≠ 0 ∧ e < 100 :=
  rdRow_bd _ _ _ _ _ rfl hp (by simp) bit_nil
theorem rowB_len : ∀ (L : List Nat) (b : Bool), (∀ x ∈ L, x ≤ 32768) → (rowB b L).length ≤ 300 * L.length := by
  intro L
  induction L with
  | nil => intro b _; simp [rowB]
  | cons x r ih =>
    intro b h
    have h1 := tell_len b (h x (by simp))
    have h2 := ih (!b) (fun y hy => h y (by simp [hy]))
    rw [rowB, List.length_append, List.length_cons]; omega
theorem agB_len {row top : List Nat} {width : Nat} (hr : row.Pairwise (· < ·)) (hrb : ∀ x ∈ row, x < width) (ht : top.Pairwise (· < ·)) (htb : ∀ x ∈ top, x < width) (hw : width ≤ 32768) : ∀ (f : Nat) (at' : Int) (b : Bool), (agB row top width f at' b).length ≤ 700 * f := by
  intro f
  induction f with
  | zero => intro at' b; simp [agB]
  | succ f ih =>
    intro at' b
    rw [agB]
    by_cases hlt : at' < (width : Int)
    · rw [if_pos hlt]
      simp only
      have nr := nextF_bd (at' := at') (toB := !b) (width := width) row true hr hrb hlt
      generalize nextF true at' (!b) width row = a at *
      generalize nextF true at' (!b) width top = c at *
      split
      · have := mod_len 8
        have := ih (c.2 : Int) b
        rw [List.length_append]; omega
      · split
        · have := mod_len (a.1 + 3 - c.1)
          have := ih (a.1 : Int) (!b)
          rw [List.length_append]; omega
        · have := mod_len 7
          have := ih (a.2 : Int) b
          have := tell_len b (show a.1 - (max at' 0).toNat ≤ 32768 by omega)
          have := tell_len (!b) (show a.2 - a.1 ≤ 32768 by omega)
          simp only [List.length_append]; omega
    · rw [if_neg hlt]; simp

end Go.Proofs.YtdjoigobmmaaiaaDoor
