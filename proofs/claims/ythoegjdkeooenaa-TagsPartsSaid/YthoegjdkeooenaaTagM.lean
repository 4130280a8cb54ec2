/-
  Layer 23: what a directory's fields tell of a page, as plain Lean; no program.
-/
import Derived.Test.YthoegjdkeooenaaStructs
import Derived.Test.YthoegjdkeooenaaSep
namespace Go.Mz
open Go.RowKit
set_option linter.unusedVariables false
set_option linter.unusedSimpArgs false

/-- A field: tag, type, values. -/
structure Fld where
  tag : Nat
  kind : Int
  vals : List Nat
def topN : Nat := 4294967295
def knownL : List Nat := [256, 257, 258, 259, 262, 266, 273, 277, 278, 279, 284, 292, 293, 317, 322, 323, 324, 325]
def schemeL : List Nat := [1, 2, 3, 4, 5, 8, 32773, 32946]
def wholeK (k : Int) : Bool := k == 1 || k == 3 || k == 4 || k == 13 || k == 16 || k == 18
def findF (l : List Fld) (t : Nat) : Option Fld := l.find? fun f => f.tag == t
/-- The first thing that was wrong. -/
def orE (e x : Nat) : Nat := if e = 0 then x else e
def needE (l : List Fld) (t : Nat) : Nat := match findF l t with
  | none => 12
  | some f => if wholeK f.kind then 0 else 3
def needV (l : List Fld) (t : Nat) : List Nat := match findF l t with
  | none => []
  | some f => if wholeK f.kind then f.vals else []
def fitsV (least most : Nat) (vs : List Nat) : Bool := vs.length == 1 && decide (least ≤ vs.headD 0) && decide (vs.headD 0 ≤ most)
def oneE (l : List Fld) (t least most : Nat) : Nat := match findF l t with
  | none => 0
  | some f => if wholeK f.kind then (if fitsV least most f.vals then 0 else 3) else 3
def oneV (l : List Fld) (t least most without : Nat) : Nat := match findF l t with
  | none => without
  | some f => if wholeK f.kind && fitsV least most f.vals then f.vals.headD 0 else without
def badB (vs : List Nat) : Bool := vs.any fun n => n != vs.headD 0 || decide (n < 1) || decide (32 < n)
def bitsE (l : List Fld) (per : Nat) : Nat := match findF l 258 with
  | none => 0
  | some f => if wholeK f.kind then (if f.vals.length = per then (if badB f.vals then 9 else 0) else 3) else 3
def bitsV (l : List Fld) (per : Nat) : Nat := match findF l 258 with
  | none => 1
  | some f => if wholeK f.kind && f.vals.length == per && !badB f.vals then f.vals.headD 0 else 1

theorem oneV_within {l : List Fld} {t least most without : Nat} (h : least ≤ without) (h2 : without ≤ most) : least ≤ oneV l t least most without ∧ oneV l t least most without ≤ most := by
  unfold oneV
  split
  · exact ⟨h, h2⟩
  · split
    · rename_i hc
      simp only [fitsV, Bool.and_eq_true, decide_eq_true_eq] at hc
      exact ⟨hc.2.1.2, hc.2.2⟩
    · exact ⟨h, h2⟩
/-- A value that is there, and right, or the one that counts otherwise (that may be beyond the greatest). -/
theorem oneV_or {l : List Fld} {t least most without : Nat} : oneV l t least most without = without ∨ (least ≤ oneV l t least most without ∧ oneV l t least most without ≤ most) := by
  unfold oneV
  split
  · exact .inl rfl
  · split
    · rename_i hc
      simp only [fitsV, Bool.and_eq_true, decide_eq_true_eq] at hc
      exact .inr ⟨hc.2.1.2, hc.2.2⟩
    · exact .inl rfl
theorem bitsV_within (l : List Fld) {per : Nat} (h : 1 ≤ per) : 1 ≤ bitsV l per ∧ bitsV l per ≤ 32 := by
  unfold bitsV
  split
  · omega
  · rename_i f hf
    split
    · rename_i hc
      simp only [Bool.and_eq_true, Bool.not_eq_true', beq_iff_eq] at hc
      obtain ⟨⟨_, hl⟩, hb⟩ := hc
      cases hv : f.vals with
      | nil => rw [hv] at hl; simp at hl; omega
      | cons a r =>
        rw [hv] at hb
        simp only [badB, List.headD_cons, List.any_cons, Bool.or_eq_false_iff, decide_eq_false_iff_not] at hb
        simp only [List.headD_cons]
        omega
    · omega

/-! ### Layouts -/
structure LayD where
  width : Int
  height : Int
  tiled : Bool
  w : Int
  h : Int
def rightL (l : LayD) : Prop :=
  1 ≤ l.width ∧ 1 ≤ l.height ∧ l.width ≤ 32768 ∧ l.height ≤ 32768 ∧ l.width * l.height ≤ 4194304 ∧
    (if l.tiled then 16 ≤ l.w ∧ 16 ≤ l.h ∧ l.w % 16 = 0 ∧ l.h % 16 = 0 ∧ l.w ≤ 32768 ∧ l.h ≤ 32768 ∧ l.w * l.h ≤ 4194304 else l.w = l.width ∧ 1 ≤ l.h ∧ l.h ≤ l.height)
instance (l : LayD) : Decidable (rightL l) := by unfold rightL; infer_instance
/-- How many parts stand beside each other, and below each other. -/
def countL (l : LayD) : Int := (l.width + l.w - 1) / l.w * ((l.height + l.h - 1) / l.h)
theorem rightL_w {l : LayD} (h : rightL l) : 1 ≤ l.w ∧ l.w ≤ 32768 ∧ 1 ≤ l.h ∧ l.h ≤ 32768 := by
  obtain ⟨h1, h2, h3, h4, _, h6⟩ := h
  split at h6 <;> omega
theorem across_le {a b : Int} (h1 : 1 ≤ a) (h2 : a ≤ 32768) (h3 : 1 ≤ b) (h4 : b ≤ 32768) : 1 ≤ (a + b - 1) / b ∧ (a + b - 1) / b ≤ 32768 := by
  constructor
  · exact (Int.le_ediv_iff_mul_le (by omega)).2 (by omega)
  · have : (a + b - 1) / b ≤ a := by
      refine Int.ediv_le_of_le_mul (by omega) ?_
      have : (a - 1) * (b - 1) ≥ 0 := Int.mul_nonneg (by omega) (by omega)
      have e : (a - 1) * (b - 1) = a * b - a - b + 1 := by rw [Int.sub_mul, Int.mul_sub, Int.mul_sub]; omega
      omega
    omega
theorem countL_le {l : LayD} (h : rightL l) : 1 ≤ countL l ∧ countL l ≤ 1073741824 := by
  obtain ⟨h1, h2, h3, h4⟩ := rightL_w h
  obtain ⟨g1, g2, g3, g4, _, _⟩ := h
  obtain ⟨a1, a2⟩ := across_le g1 g3 h1 h2
  obtain ⟨b1, b2⟩ := across_le g2 g4 h3 h4
  unfold countL
  generalize (l.width + l.w - 1) / l.w = x at *
  generalize (l.height + l.h - 1) / l.h = y at *
  constructor
  · have := Int.mul_le_mul a1 b1 (by omega) (by omega); omega
  · have := Int.mul_le_mul a2 b2 (by omega) (by omega); omega

/-! ### Pages -/
structure PgD where
  lay : LayD
  per : Int
  bits : Int
  photo : Nat
  planar : Bool
  scheme : Int
  predict : Bool
  low : Bool
  two : Bool
  offs : List Nat
  cnts : List Nat
  rest : List Fld
def nonePg : PgD := ⟨⟨0, 0, false, 0, 0⟩, 0, 0, 0, false, 0, false, false, false, [], [], []⟩
def faxN (n : Int) : Bool := n == 2 || n == 3 || n == 4
def predB (n : Int) (bits : Int) : Bool := (n == 5 || n == 8 || n == 32946) && (bits == 8 || bits == 16 || bits == 32)
/-- How many parts, of all planes. -/
def partsP (p : PgD) : Int := if p.planar then countL p.lay * p.per else countL p.lay

/-! ### What fields tell, and what is wrong first -/
def perV (l : List Fld) : Nat := if 8 < oneV l 277 1 topN 1 then 1 else oneV l 277 1 topN 1
def perE (l : List Fld) : Nat := if 8 < oneV l 277 1 topN 1 then 9 else 0
def schV (l : List Fld) : Nat := oneV l 259 1 topN 1
def preV (l : List Fld) : Nat := oneV l 317 1 3 1
def aV (l : List Fld) : Nat := oneV l 292 0 topN 0
def bV (l : List Fld) : Nat := oneV l 293 0 topN 0
def faxE (l : List Fld) : Nat :=
  if (schV l = 3 ∧ aV l / 2 % 2 = 1) ∨ (schV l = 4 ∧ bV l / 2 % 2 = 1) then 9
  else if (faxN (schV l) = true ∧ (perV l ≠ 1 ∨ bitsV l (perV l) ≠ 1)) ∨ (preV l = 2 ∧ predB (schV l) (bitsV l (perV l)) = false) then 3 else 0
def wideV (l : List Fld) : Nat := oneV l 256 1 topN 1
def highV (l : List Fld) : Nat := oneV l 257 1 topN 1
def limE (l : List Fld) : Nat := if 32768 < wideV l ∨ 32768 < highV l ∨ 4194304 < wideV l * highV l * perV l then 8 else 0
def hasT (l : List Fld) (t : Nat) : Bool := (findF l t).isSome
def tiledB (l : List Fld) : Bool := hasT l 322 || hasT l 323 || hasT l 324 || hasT l 325
def layV (l : List Fld) : LayD :=
  let w := if limE l = 0 then wideV l else 1
  let h := if limE l = 0 then highV l else 1
  if tiledB l then ⟨w, h, true, oneV l 322 1 topN 16, oneV l 323 1 topN 16⟩ else ⟨w, h, false, w, (min (oneV l 278 1 topN topN) h : Nat)⟩
def offT (l : List Fld) : Nat := if tiledB l then 324 else 273
def cntT (l : List Fld) : Nat := if tiledB l then 325 else 279
def pageV (l : List Fld) : PgD :=
  ⟨layV l, perV l, bitsV l (perV l), oneV l 262 0 65535 0, oneV l 284 1 2 1 == 2, schV l, preV l == 2, oneV l 266 1 2 1 == 2, schV l == 3 && aV l % 2 == 1, needV l (offT l), needV l (cntT l), l.filter fun f => !knownL.contains f.tag⟩
def cutE (l : List Fld) : Nat := if rightL (layV l) ∧ ((needV l (offT l)).length : Int) = partsP (pageV l) ∧ ((needV l (cntT l)).length : Int) = partsP (pageV l) then 0 else 3
/-- What may be wrong, one thing behind the other. -/
def wrongL (l : List Fld) : List Nat :=
  [needE l 256, oneE l 256 1 topN, needE l 257, oneE l 257 1 topN, oneE l 277 1 topN, perE l, bitsE l (perV l), oneE l 259 1 topN, if schemeL.contains (schV l) then 0 else 9, oneE l 262 0 65535, oneE l 266 1 2, oneE l 284 1 2,
    oneE l 317 1 3, if preV l = 3 then 9 else 0, oneE l 292 0 topN, oneE l 293 0 topN, faxE l, limE l] ++
    (if tiledB l then [needE l 322, needE l 323, oneE l 322 1 topN, oneE l 323 1 topN] else [oneE l 278 1 topN]) ++ [needE l (offT l), needE l (cntT l), cutE l]
def firstE (es : List Nat) : Nat := es.foldl orE 0
def descE (l : List Fld) : Nat := firstE (wrongL l)
theorem orE_zero (x : Nat) : orE 0 x = x := rfl
theorem orE_nz {e : Nat} (h : e ≠ 0) (x : Nat) : orE e x = e := if_neg h
theorem orE_nil (e : Nat) : orE e 0 = e := by unfold orE; split <;> omega
theorem firstE_foldl (es : List Nat) : ∀ e, es.foldl orE e = orE e (firstE es) := by
  induction es with
  | nil => intro e; rw [firstE, List.foldl_nil, List.foldl_nil, orE_nil]
  | cons x es ih =>
    intro e
    rw [firstE, List.foldl_cons, List.foldl_cons, ih, ih (orE 0 x), orE_zero]
    by_cases h : e = 0
    · subst h; rw [orE_zero]; rfl
    · rw [orE_nz h, orE_nz h, orE_nz h]
theorem firstE_cons (x : Nat) (es : List Nat) : firstE (x :: es) = orE x (firstE es) := by rw [firstE, List.foldl_cons, firstE_foldl, orE_zero]
theorem orE_eq_zero {e x : Nat} : orE e x = 0 ↔ e = 0 ∧ x = 0 := by
  unfold orE; split
  · rename_i h; exact ⟨fun g => ⟨h, g⟩, fun g => g.2⟩
  · rename_i h; exact ⟨fun g => absurd g h, fun g => g.1⟩
theorem firstE_zero : ∀ {es : List Nat}, firstE es = 0 ↔ ∀ e ∈ es, e = 0 := by
  intro es
  induction es with
  | nil => simp [firstE]
  | cons x es ih => rw [firstE_cons, orE_eq_zero, ih]; simp
end Go.Mz
