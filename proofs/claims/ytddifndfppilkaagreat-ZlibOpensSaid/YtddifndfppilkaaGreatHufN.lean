/-
  Layer 6 (huff): a book's places, as plain Lean; slices of elements of more than one cell. No program.
  Layer 6 (huff): books, what does not hang on what words mean.
-/
import Derived.Test.YtddifndfppilkaaGreatSep
import Derived.Test.YtddifndfppilkaaGreatBitsM
import Derived.Test.YtddifndfppilkaaGreatStructs
import Derived.Test.YtddifndfppilkaaGreatWrM
import Derived.Test.YtddifndfppilkaaGreatRd
import Derived.RegionTactic
import Derived.BigRegion
import Derived.WalkLawsBesides
import Derived.Deep.Cut
import Derived.DeepKeys
import Derived.Test.YtddifndfppilkaaGreatReg
import Derived.Deep.RegionHeld3
namespace Go.Mz
open Go.RowKit
set_option linter.unusedVariables false
set_option linter.unusedSimpArgs false

theorem flat_set {α : Type} (enc : α → List Value) (m : Nat) (hm : ∀ x, (enc x).length = m) (l : List α) (k : Nat) (x y : α) (h : l[k]? = some x) (j : Nat) (hj : j < m) (v : Value) (hv : (enc x).set j v = enc y) :
    (l.flatMap enc).set (k * m + j) v = (l.set k y).flatMap enc := by
  induction l generalizing k with
  | nil => simp at h
  | cons p l ih =>
    cases k with
    | zero =>
      simp only [List.getElem?_cons_zero, Option.some.injEq] at h
      subst h
      rw [List.flatMap_cons, Nat.zero_mul, Nat.zero_add, List.set_append_left _ _ (by rw [hm]; exact hj), hv, List.set_cons_zero, List.flatMap_cons]
    | succ k =>
      simp only [List.getElem?_cons_succ] at h
      rw [List.flatMap_cons, List.set_append_right _ _ (by rw [hm, Nat.succ_mul]; omega), List.set_cons_succ, List.flatMap_cons, ← ih k h, hm]
      congr 2; rw [Nat.succ_mul]; omega

theorem St.own_setS {w0 w : World} {e : TypeId} {g n cap size : Nat} {xs : List Value} {F : SProp} (h : St w0 w (own e size (.slice (some ⟨g, 0, none⟩) n cap) n xs * F)) (i : Nat) (u : Value) :
    St w0 (w.setCell ⟨g, i, none⟩ u) (own e size (.slice (some ⟨g, 0, none⟩) n cap) n (xs.set i u) * F) := by
  obtain ⟨hl, ⟨a1, _⟩ | ⟨g', cap', cur, a1, a2, a3, a4, a5, a6⟩⟩ := h.own_split
  · cases a1
  · cases a1
    refine St.own_blk (a6.set i u) a2 a3 (by simpa using a4) ?_
    rw [← a5, Array.toList_setIfInBounds, List.take_set]
theorem St.own_cellS {w0 w : World} {e : TypeId} {g n cap size : Nat} {xs : List Value} {F : SProp} (h : St w0 w (own e size (.slice (some ⟨g, 0, none⟩) n cap) n xs * F)) {i : Nat} {u : Value} (hu : xs[i]? = some u) : w.cell? ⟨g, i, none⟩ = some u := by
  obtain ⟨hl, ⟨a1, _⟩ | ⟨x, c, a1, a2, a3, a4⟩⟩ := h.reads
  · cases a1
  · cases a1
    have := a4 i u hu
    rw [Addr.add_lit, Nat.zero_add] at this
    exact this

/-- A place in a book. -/
structure Nd where
  n0 : Nat
  n1 : Nat
  mean : Int
def Nd.nx (d : Nd) (c : Nat) : Nat := if c = 0 then d.n0 else d.n1
def Nd.put (d : Nd) (c x : Nat) : Nd := if c = 0 then { d with n0 := x } else { d with n1 := x }
def nd0 : Nd := ⟨0, 0, -1⟩
def ndV (d : Nd) : List Value := [.int .i64 (d.n0 : Int), .int .i64 (d.n1 : Int), .int .i64 d.mean]
theorem length_ndV (d : Nd) : (ndV d).length = 3 := rfl
def flatN (N : List Nd) : List Value := N.flatMap ndV
theorem length_flatN (N : List Nd) : (flatN N).length = N.length * 3 := length_flat ndV 3 length_ndV N
theorem flatN_snoc (N : List Nd) (d : Nd) : flatN (N ++ [d]) = flatN N ++ ndV d := by simp [flatN]
theorem flatN_mean {N : List Nd} {k : Nat} {d : Nd} (h : N[k]? = some d) : (flatN N)[k * 3 + 2]? = some (.int .i64 d.mean) := by
  rw [flatN, flat_get ndV 3 length_ndV N k d h 2 (by omega)]; rfl
theorem flatN_next {N : List Nd} {k : Nat} {d : Nd} (h : N[k]? = some d) {c : Nat} (hc : c ≤ 1) : (flatN N)[k * 3 + c]? = some (.int .i64 (d.nx c : Int)) := by
  rw [flatN, flat_get ndV 3 length_ndV N k d h c (by omega)]
  have : c = 0 ∨ c = 1 := by omega
  rcases this with rfl | rfl <;> rfl
theorem flatN_setMean {N : List Nd} {k : Nat} {d : Nd} (h : N[k]? = some d) (m : Int) : (flatN N).set (k * 3 + 2) (.int .i64 m) = flatN (N.set k { d with mean := m }) :=
  flat_set ndV 3 length_ndV N k d _ h 2 (by omega) _ rfl
theorem flatN_setNext {N : List Nd} {k : Nat} {d : Nd} (h : N[k]? = some d) {c : Nat} (hc : c ≤ 1) (x : Nat) : (flatN N).set (k * 3 + c) (.int .i64 (x : Int)) = flatN (N.set k (d.put c x)) := by
  have : c = 0 ∨ c = 1 := by omega
  rcases this with rfl | rfl
  · exact flat_set ndV 3 length_ndV N k d _ h 0 (by omega) _ rfl
  · exact flat_set ndV 3 length_ndV N k d _ h 1 (by omega) _ rfl

/-- Lays a word: from a place on. The places; the error. -/
def layS (mean : Nat) : List Nd → Nat → List UInt8 → List Nd × Nat
  | N, at_, [] =>
    let d := N.getD at_ nd0
    if 0 ≤ d.mean ∨ d.n0 ≠ 0 ∨ d.n1 ≠ 0 then (N, 14) else (N.set at_ { d with mean := mean }, 0)
  | N, at_, ch :: s =>
    let d := N.getD at_ nd0
    let c := if ch = 48 then 0 else 1
    if ch ≠ 48 ∧ ch ≠ 49 then (N, 3)
    else if 0 ≤ d.mean then (N, 14)
    else if d.nx c = 0 then layS mean ((N ++ [nd0]).set at_ (d.put c N.length)) N.length s
    else layS mean N (d.nx c) s
def lay (N : List Nd) (s : List UInt8) (mean : Nat) : List Nd × Nat := if s = [] then (N, 0) else layS mean N 0 s

/-- Where places lead there are places. -/
def NOk (N : List Nd) : Prop := 0 < N.length ∧ ∀ d ∈ N, d.n0 < N.length ∧ d.n1 < N.length
theorem NOk.one : NOk [nd0] := ⟨by simp, fun d hd => by simp at hd; subst hd; simp [nd0]⟩
theorem NOk.nx {N : List Nd} (h : NOk N) {k : Nat} {d : Nd} (hd : N[k]? = some d) (c : Nat) : d.nx c < N.length := by
  have := h.2 d (List.mem_of_getElem? hd)
  unfold Nd.nx; split
  · exact this.1
  · exact this.2
theorem NOk.more {N : List Nd} (h : NOk N) {k : Nat} {d : Nd} (hd : N[k]? = some d) (c : Nat) : NOk ((N ++ [nd0]).set k (d.put c N.length)) := by
  refine ⟨by simp, fun x hx => ?_⟩
  rw [List.length_set, List.length_append, List.length_singleton]
  have hN := h.1
  rcases List.mem_or_eq_of_mem_set hx with hx | rfl
  · rw [List.mem_append, List.mem_singleton] at hx
    rcases hx with hx | rfl
    · have := h.2 x hx; omega
    · simp [nd0]
  · have := h.2 d (List.mem_of_getElem? hd)
    unfold Nd.put; split
    · exact ⟨by simp, by simp only; omega⟩
    · exact ⟨by simp only; omega, by simp⟩
theorem NOk.mean {N : List Nd} (h : NOk N) {k : Nat} {d : Nd} (hd : N[k]? = some d) (m : Int) : NOk (N.set k { d with mean := m }) := by
  refine ⟨by rw [List.length_set]; exact h.1, fun x hx => ?_⟩
  rw [List.length_set]
  rcases List.mem_or_eq_of_mem_set hx with hx | rfl
  · exact h.2 x hx
  · exact h.2 d (List.mem_of_getElem? hd)
end Go.Mz

namespace Go.Proofs.YtddifndfppilkaaGreat
open Go.RowKit Go.Mz
set_option linter.unusedVariables false
set_option linter.unusedSimpArgs false
set_option maxRecDepth 100000

def iv (n : Int) : Value := .int .i64 n
def nv (n : Nat) : Value := .int .i64 (n : Int)
def txv (w : List Nat) : Value := .string ⟨(tx w).toArray⟩
def svB (t : List UInt8) : Value := .string ⟨t.toArray⟩
theorem elemStrs : ElemT Tryz.prog 69 9 1 16 (.string ⟨#[]⟩) :=
  ⟨Tryz.underlying69, info_parts (by kernel_rfl), rfl, by decide⟩
theorem elemNodes : ElemT Tryz.prog 133 132 3 24 (.agg #[.int .i64 0, .int .i64 0, .int .i64 0]) :=
  ⟨Tryz.underlying133, info_parts (by kernel_rfl), rfl, by decide⟩

theorem layS_cons_bad {mean : Nat} {N : List Nd} {a : Nat} {ch : UInt8} {s : List UInt8} (h : ch ≠ 48 ∧ ch ≠ 49) : layS mean N a (ch :: s) = (N, 3) := by rw [layS]; simp [h]
theorem layS_cons_twice {mean : Nat} {N : List Nd} {a : Nat} {d : Nd} {ch : UInt8} {s : List UInt8} (hd : N[a]? = some d) (h : ch = 48 ∨ ch = 49) (hm : 0 ≤ d.mean) : layS mean N a (ch :: s) = (N, 14) := by
  have e : N.getD a nd0 = d := by rw [List.getD_eq_getElem?_getD, hd]; rfl
  have h' : ¬ (ch ≠ 48 ∧ ch ≠ 49) := by rintro ⟨h1, h2⟩; rcases h with h | h; exact h1 h; exact h2 h
  rw [layS]
  simp only [e, if_neg h', if_pos hm]
theorem layS_cons_new {mean : Nat} {N : List Nd} {a c : Nat} {d : Nd} {ch : UInt8} {s : List UInt8} (hd : N[a]? = some d) (h : ch = 48 ∧ c = 0 ∨ ch = 49 ∧ c = 1) (hm : ¬ 0 ≤ d.mean) (hx : d.nx c = 0) :
    layS mean N a (ch :: s) = layS mean ((N ++ [nd0]).set a (d.put c N.length)) N.length s := by
  have e : N.getD a nd0 = d := by rw [List.getD_eq_getElem?_getD, hd]; rfl
  have h' : ¬ (ch ≠ 48 ∧ ch ≠ 49) := by rintro ⟨h1, h2⟩; rcases h with h | h; exact h1 h.1; exact h2 h.1
  have hc : (if ch = 48 then 0 else 1) = c := by rcases h with ⟨rfl, rfl⟩ | ⟨rfl, rfl⟩ <;> rfl
  rw [layS]
  simp only [e, if_neg h', if_neg hm, hc, if_pos hx]
theorem layS_cons_old {mean : Nat} {N : List Nd} {a c : Nat} {d : Nd} {ch : UInt8} {s : List UInt8} (hd : N[a]? = some d) (h : ch = 48 ∧ c = 0 ∨ ch = 49 ∧ c = 1) (hm : ¬ 0 ≤ d.mean) (hx : ¬ d.nx c = 0) :
    layS mean N a (ch :: s) = layS mean N (d.nx c) s := by
  have e : N.getD a nd0 = d := by rw [List.getD_eq_getElem?_getD, hd]; rfl
  have h' : ¬ (ch ≠ 48 ∧ ch ≠ 49) := by rintro ⟨h1, h2⟩; rcases h with h | h; exact h1 h.1; exact h2 h.1
  have hc : (if ch = 48 then 0 else 1) = c := by rcases h with ⟨rfl, rfl⟩ | ⟨rfl, rfl⟩ <;> rfl
  rw [layS]
  simp only [e, if_neg h', if_neg hm, hc, if_neg hx]

theorem two_lits {p q : Nat} (hp : p < 100000000) (hq : q < 100000000) : Tryz.prog.keyLits 2 130 [.int .i64 p, .int .i64 q] = some [.int .i64 p, .int .i64 q] := by
  have h1 : (Lit.int .i64 (p : Int)).wf = true := by simp [Lit.wf, IntKind.min, IntKind.max, IntKind.bits, IntKind.signed]; omega
  have h2 : (Lit.int .i64 (q : Int)).wf = true := by simp [Lit.wf, IntKind.min, IntKind.max, IntKind.bits, IntKind.signed]; omega
  have c2 : Tryz.prog.cellsOf 130 = 2 := by kernel_rfl
  have c1 : Tryz.prog.cellsOf 3 = 1 := by kernel_rfl
  simp [Program.keyLits, c2, c1, Tryz.underlying130, Tryz.underlying3, h1, h2, List.range_succ]
theorem eq_two {p q : Nat} (hp : p < 100000000) (hq : q < 100000000) (w : World) : (Op.equalIn 10000 130 (.agg #[.int .i64 p, .int .i64 q]) (.agg #[.int .i64 0, .int .i64 0])).run Tryz.prog w = .ok (decide (p = 0 ∧ q = 0)) w := by
  have c2 : Tryz.prog.cellsOf 130 = 2 := by kernel_rfl
  have hf : ∀ a b : Value, (Value.agg #[a, b]).formed Tryz.prog 130 = true := fun a b => by simp [Value.formed, Tryz.underlying130, c2]
  obtain ⟨r, h1, h2⟩ := run_equalIn_deep (P := Tryz.prog) 9998 2 130 (by kernel_rfl) w 2 2 _ _ _ _ (hf (.int .i64 p) (.int .i64 q)) (hf (.int .i64 0) (.int .i64 0)) (two_lits hp hq) (two_lits (p := 0) (q := 0) (by omega) (by omega))
  rw [h1]
  congr 1
  rw [Bool.eq_iff_iff, h2]
  simp
theorem layS_nil_badX : True := trivial
theorem layS_nil_bad {mean : Nat} {N : List Nd} {a : Nat} {d : Nd} (hd : N[a]? = some d) (h : 0 ≤ d.mean ∨ d.n0 ≠ 0 ∨ d.n1 ≠ 0) : layS mean N a [] = (N, 14) := by
  have e : N.getD a nd0 = d := by rw [List.getD_eq_getElem?_getD, hd]; rfl
  rw [layS]
  simp only [e, if_pos h]
theorem layS_nil_ok {mean : Nat} {N : List Nd} {a : Nat} {d : Nd} (hd : N[a]? = some d) (h1 : ¬ 0 ≤ d.mean) (h2 : d.n0 = 0) (h3 : d.n1 = 0) : layS mean N a [] = (N.set a { d with mean := mean }, 0) := by
  have e : N.getD a nd0 = d := by rw [List.getD_eq_getElem?_getD, hd]; rfl
  rw [layS]
  simp only [e]
  rw [if_neg (by omega)]

/-- All words are laid, one behind the other; the error of the first that can't be. -/
def layAll : List Nd → Nat → List (List UInt8) → List Nd × Nat
  | N, _, [] => (N, 0)
  | N, i, w :: ws => if (lay N w i).2 = 0 then layAll (lay N w i).1 (i + 1) ws else ((lay N w i).1, (lay N w i).2)

/-- From a place on, of bits from p on: where it ends, what it means; or the error. -/
def readF (N : List Nd) (bs : List UInt8) (low : Bool) : Nat → Nat → Nat → Nat × (Nat ⊕ Nat)
  | 0, p, _ => (p, .inr 99)
  | f + 1, p, a =>
    if 8 * bs.length < p + 1 then (p, .inr 2)
    else
      let b := (N.getD a nd0).nx (peekV bs low p 1)
      if b = 0 then (p + 1, .inr 6)
      else if 0 ≤ (N.getD b nd0).mean then (p + 1, .inl (N.getD b nd0).mean.toNat)
      else readF N bs low f (p + 1) b
def readN (N : List Nd) (bs : List UInt8) (low : Bool) (p : Nat) : Nat × (Nat ⊕ Nat) := readF N bs low (8 * bs.length + 1 - p) p 0
def MOk (N : List Nd) (m : Nat) : Prop := ∀ d ∈ N, d.mean < m

end Go.Proofs.YtddifndfppilkaaGreat
