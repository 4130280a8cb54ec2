/-
  Layer 6 (huff): books, what does not hang on what words mean.
-/
import Derived.Test.YtljdohfdafnnaaaDoorHufN
import Derived.Test.YtljdohfdafnnaaaDoorWrM
import Derived.Test.YtljdohfdafnnaaaDoorRd
import Derived.RegionTactic
import Derived.BigRegion
import Derived.WalkLawsBesides
import Derived.Deep.Cut
import Derived.DeepKeys
import Derived.Test.YtljdohfdafnnaaaDoorReg3
import Derived.Deep.RegionHeld3
namespace Go.Proofs.YtljdohfdafnnaaaDoor
open Go.RowKit Go.Mz
set_option linter.unusedVariables false
set_option linter.unusedSimpArgs false
set_option maxRecDepth 100000

def iv (n : Int) : Value := .int .i64 n
def nv (n : Nat) : Value := .int .i64 (n : Int)
def txv (w : List Nat) : Value := .string ⟨(tx w).toArray⟩
def svB (t : List UInt8) : Value := .string ⟨t.toArray⟩
theorem elemStrs : ElemT Tryd.prog 30 9 1 16 (.string ⟨#[]⟩) :=
  ⟨Tryd.underlying30, info_parts (by kernel_rfl), rfl, by decide⟩
theorem elemNodes : ElemT Tryd.prog 117 116 3 24 (.agg #[.int .i64 0, .int .i64 0, .int .i64 0]) :=
  ⟨Tryd.underlying117, info_parts (by kernel_rfl), rfl, by decide⟩

theorem layS_cons_bad {mean : Nat} {N : List Nd} {a : Nat} {ch : UInt8} {s : List UInt8} (h : ch ≠ 48 ∧ ch ≠ 49) : layS mean N a (ch :: s) = (N, 3) := by rw [layS]; simp [h]
theorem layS_cons_twice {mean : Nat} {N : List Nd} {a : Nat} {d : Nd} {ch : UInt8} {s : List UInt8} (hd : N[a]? = some d) (h : ch = 48 ∨ ch = 49) (hm : 0 ≤ d.mean) : layS mean N a (ch :: s) = (N, 14) := by
  have e : N.getD a nd0 = d := by rw [List.getD_eq_getElem?_getD, hd]; rfl
  have h' : ¬ (ch ≠ 48 ∧ ch ≠ 49) := by rintro ⟨h1, h2⟩; rcases h with h | h; exact h1 h; exact h2 h
  rw [layS]
  simp only [e, if_neg h', if_pos hm]
theorem layS_cons_new {mean : Nat} {N : List Nd} {a c : Nat} {d : Nd} {ch : UInt8} {s : List UInt8} (hd : N[a]? = some d) (h : ch = 48 ∧ c = 0 ∨ ch = 49 ∧ c = 1) (hm : ¬ 0 ≤ d.mean) (hx : d.nx c = 0) :
    layS mean N a (ch :: s) = layS mean ((N ++ [nd0]).set a (d.put c N.length)) N.length s := by
  have e : N.getD a nd0 = d := by rw [List.getD_eq_getElem?_getD, hd]; rfl
  have h' : ¬ (ch ≠ 48 ∧ ch ≠ 49) := by rintro ⟨h1, h2⟩; rcases h with h | h; exact h1 h.1; exact h2 h.1
  have hc : (if ch = 48 then 0 else 1) = c := by rcases h with ⟨rfl, rfl⟩ | ⟨rfl, rfl⟩ <;> rfl
  rw [layS]
  simp only [e, if_neg h', if_neg hm, hc, if_pos hx]
theorem layS_cons_old {mean : Nat} {N : List Nd} {a c : Nat} {d : Nd} {ch : UInt8} {s : List UInt8} (hd : N[a]? = some d) (h : ch = 48 ∧ c = 0 ∨ ch = 49 ∧ c = 1) (hm : ¬ 0 ≤ d.mean) (hx : ¬ d.nx c = 0) :
    layS mean N a (ch :: s) = layS mean N (d.nx c) s := by
  have e : N.getD a nd0 = d := by rw [List.getD_eq_getElem?_getD, hd]; rfl
  have h' : ¬ (ch ≠ 48 ∧ ch ≠ 49) := by rintro ⟨h1, h2⟩; rcases h with h | h; exact h1 h.1; exact h2 h.1
  have hc : (if ch = 48 then 0 else 1) = c := by rcases h with ⟨rfl, rfl⟩ | ⟨rfl, rfl⟩ <;> rfl
  rw [layS]
  simp only [e, if_neg h', if_neg hm, hc, if_neg hx]

theorem two_lits {p q : Nat} (hp : p < 100000000) (hq : q < 100000000) : Tryd.prog.keyLits 2 23 [.int .i64 p, .int .i64 q] = some [.int .i64 p, .int .i64 q] := by
  have h1 : (Lit.int .i64 (p : Int)).wf = true := by simp [Lit.wf, IntKind.min, IntKind.max, IntKind.bits, IntKind.signed]; omega
  have h2 : (Lit.int .i64 (q : Int)).wf = true := by simp [Lit.wf, IntKind.min, IntKind.max, IntKind.bits, IntKind.signed]; omega
  have c2 : Tryd.prog.cellsOf 23 = 2 := by kernel_rfl
  have c1 : Tryd.prog.cellsOf 3 = 1 := by kernel_rfl
  simp [Program.keyLits, c2, c1, Tryd.underlying23, Tryd.underlying3, h1, h2, List.range_succ]
theorem eq_two {p q : Nat} (hp : p < 100000000) (hq : q < 100000000) (w : World) : (Op.equalIn 10000 23 (.agg #[.int .i64 p, .int .i64 q]) (.agg #[.int .i64 0, .int .i64 0])).run Tryd.prog w = .ok (decide (p = 0 ∧ q = 0)) w := by
  have c2 : Tryd.prog.cellsOf 23 = 2 := by kernel_rfl
  have hf : ∀ a b : Value, (Value.agg #[a, b]).formed Tryd.prog 23 = true := fun a b => by simp [Value.formed, Tryd.underlying23, c2]
  obtain ⟨r, h1, h2⟩ := run_equalIn_deep (P := Tryd.prog) 9998 2 23 (by kernel_rfl) w 2 2 _ _ _ _ (hf (.int .i64 p) (.int .i64 q)) (hf (.int .i64 0) (.int .i64 0)) (two_lits hp hq) (two_lits (p := 0) (q := 0) (by omega) (by omega))
  rw [h1]
  congr 1
  rw [Bool.eq_iff_iff, h2]
  simp
theorem layS_nil_badX : True := trivial
theorem layS_nil_bad {mean : Nat} {N : List Nd} {a : Nat} {d : Nd} (hd : N[a]? = some d) (h : 0 ≤ d.mean ∨ d.n0 ≠ 0 ∨ d.n1 ≠ 0) : layS mean N a [] = (N, 14) := by
  have e : N.getD a nd0 = d := by rw [List.getD_eq_getElem?_getD, hd]; rfl
  rw [layS]
  simp only [e, if_pos h]
theorem layS_nil_ok {mean : Nat} {N : List Nd} {a : Nat} {d : Nd} (hd : N[a]? = some d) (h1 : ¬ 0 ≤ d.mean) (h2 : d.n0 = 0) (h3 : d.n1 = 0) : layS mean N a [] = (N.set a { d with mean := mean }, 0) := by
  have e : N.getD a nd0 = d := by rw [List.getD_eq_getElem?_getD, hd]; rfl
  rw [layS]
  simp only [e]
  rw [if_neg (by omega)]

/-- All words are laid, one behind the other; the error of the first that can't be. -/
def layAll : List Nd → Nat → List (List UInt8) → List Nd × Nat
  | N, _, [] => (N, 0)
  | N, i, w :: ws => if (lay N w i).2 = 0 then layAll (lay N w i).1 (i + 1) ws else ((lay N w i).1, (lay N w i).2)

/-- From a place on, of bits from p on: where it ends, what it means; or the error. -/
def readF (N : List Nd) (bs : List UInt8) (low : Bool) : Nat → Nat → Nat → Nat × (Nat ⊕ Nat)
  | 0, p, _ => (p, .inr 99)
  | f + 1, p, a =>
    if 8 * bs.length < p + 1 then (p, .inr 2)
    else
      let b := (N.getD a nd0).nx (peekV bs low p 1)
      if b = 0 then (p + 1, .inr 6)
      else if 0 ≤ (N.getD b nd0).mean then (p + 1, .inl (N.getD b nd0).mean.toNat)
      else readF N bs low f (p + 1) b
def readN (N : List Nd) (bs : List UInt8) (low : Bool) (p : Nat) : Nat × (Nat ⊕ Nat) := readF N bs low (8 * bs.length + 1 - p) p 0
def MOk (N : List Nd) (m : Nat) : Prop := ∀ d ∈ N, d.mean < m

end Go.Proofs.YtljdohfdafnnaaaDoor
