/-
  Layer 23: pages as they come in.
-/
import Derived.Test.YthoegjdkeooenaaTagAc
namespace Go.Proofs.Ythoegjdkeooenaa
open Go.RowKit Go.Mz Go.ChangeShapes
set_option linter.unusedVariables false
set_option linter.unusedSimpArgs false
set_option maxRecDepth 100000

/-- A page that came in: what it is, where its rows lie. -/
structure PgI where
  p : PgD
  ao : Option Addr
  ac : Option Addr
  ar : Option Addr
  co : Nat
  cc : Nat
  cr : Nat
  R : List FV
def PgI.val (y : PgI) : Value := .agg (pgC y.p (.slice y.ao y.p.offs.length y.co) (.slice y.ac y.p.cnts.length y.cc) (.slice y.ar y.R.length y.cr))
def inI (x : Int) : Prop := -9223372036854775808 ≤ x ∧ x < 9223372036854775808
structure PgIn (w : World) (y : PgI) : Prop where
  rd : PgR w y.p (.slice y.ao y.p.offs.length y.co) (.slice y.ac y.p.cnts.length y.cc) (.slice y.ar y.R.length y.cr) y.R
  per : inI y.p.per
  bits : inI y.p.bits
  lay : inI y.p.lay.width ∧ inI y.p.lay.height ∧ inI y.p.lay.w ∧ inI y.p.lay.h
  sch : inI y.p.scheme
  tags : ∀ z ∈ y.R, z.2.tag < 65536
  vals : ∀ z ∈ y.R, z.2.vals.length ≤ 35184372088832
theorem inI_wf {x : Int} (h : (Lit.int .i64 x).wf = true) : inI x := by
  unfold inI
  simp [Lit.wf, IntKind.min, IntKind.max, IntKind.bits, IntKind.signed] at h
  omega
theorem page_in {H : Type} {enc : TypeId × Value → H} {w : World} {r : Reach} {b0 base : Nat} {spare : Nat → Bool} {held : Bool} {fuel : Nat} {v : Value} {x : DataW H × List MemPlace}
    (hv : Value.okWide Try.prog w r b0 30 v) (h : DataW.trod enc Try.prog w base spare held fuel 30 v.cells.toList = some x) (hz : ∀ n ∈ x.1.weights Try.prog 30, n ≤ reachBytes) :
    ∃ y : PgI, v = y.val ∧ PgIn w y := by
  simp only [Value.okWide, Try.underlying30] at hv
  obtain ⟨cs, rfl, h16, _⟩ := hv
  have hC : Try.prog.cellsOf 30 = 16 := by kernel_rfl
  have hL : Try.prog.cellsOf 26 = 5 := by kernel_rfl
  have hE : Try.prog.cellsOf 3 = 1 := by kernel_rfl
  have hB : Try.prog.cellsOf 4 = 1 := by kernel_rfl
  have hU : Try.prog.cellsOf 27 = 1 := by kernel_rfl
  have hS : Try.prog.cellsOf 28 = 1 := by kernel_rfl
  have hF : Try.prog.cellsOf 22 = 1 := by kernel_rfl
  rw [hC] at h16
  obtain ⟨c0, c1, c2, c3, c4, c5, c6, c7, c8, c9, c10, c11, c12, c13, c14, c15, rfl⟩ : ∃ c0 c1 c2 c3 c4 c5 c6 c7 c8 c9 c10 c11 c12 c13 c14 c15, cs = #[c0, c1, c2, c3, c4, c5, c6, c7, c8, c9, c10, c11, c12, c13, c14, c15] := by
    obtain ⟨l⟩ := cs
    match l, h16 with
    | [a, b, c, d, e, f, g, h, i, j, k, l, m, n, o, p], _ => exact ⟨a, b, c, d, e, f, g, h, i, j, k, l, m, n, o, p, rfl⟩
  obtain ⟨ys, m, _, hxx, _, hyl, hf⟩ := DataW.trod_struct Try.underlying30 h
  obtain ⟨y0, y1, y2, y3, y4, y5, y6, y7, y8, y9, y10, y11, rfl⟩ : ∃ y0 y1 y2 y3 y4 y5 y6 y7 y8 y9 y10 y11, ys = [y0, y1, y2, y3, y4, y5, y6, y7, y8, y9, y10, y11] := by
    match ys, hyl with
    | [a, b, c, d, e, f, g, h, i, j, k, l], _ => exact ⟨a, b, c, d, e, f, g, h, i, j, k, l, rfl⟩
  have hw : ∀ (j : Nat) (t : TypeId) (d : DataW H), ([26, 3, 3, 27, 4, 3, 4, 4, 4, 28, 28, 22] : List TypeId)[j]? = some t →
      [y0.1, y1.1, y2.1, y3.1, y4.1, y5.1, y6.1, y7.1, y8.1, y9.1, y10.1, y11.1][j]? = some d → ∀ n ∈ d.weights Try.prog t, n ≤ reachBytes := fun j t d ht hd n hn => hz n (by
    rw [hxx]
    simp only [DataW.weights, Try.underlying30, List.map_cons, List.map_nil]
    exact DataW.weights_mem_each (j := j) ht hd n hn)
  have f0 := hf 0 _ rfl
  have f1 := hf 1 _ rfl
  have f2 := hf 2 _ rfl
  have f3 := hf 3 _ rfl
  have f4 := hf 4 _ rfl
  have f5 := hf 5 _ rfl
  have f6 := hf 6 _ rfl
  have f7 := hf 7 _ rfl
  have f8 := hf 8 _ rfl
  have f9 := hf 9 _ rfl
  have f10 := hf 10 _ rfl
  have f11 := hf 11 _ rfl
  clear hf hz hxx h16
  simp [hL, hE, hB, hU, hS, hF, Value.cells] at f0 f1 f2 f3 f4 f5 f6 f7 f8 f9 f10 f11
  obtain ⟨zs, m2, _, _, _, hzl, hg⟩ := DataW.trod_struct Try.underlying26 f0
  obtain ⟨z0, z1, z2, z3, z4, rfl⟩ : ∃ z0 z1 z2 z3 z4, zs = [z0, z1, z2, z3, z4] := by
    match zs, hzl with
    | [a, b, c, d, e], _ => exact ⟨a, b, c, d, e, rfl⟩
  have g0 := hg 0 _ rfl
  have g1 := hg 1 _ rfl
  have g2 := hg 2 _ rfl
  have g3 := hg 3 _ rfl
  have g4 := hg 4 _ rfl
  simp [hE, hB] at g0 g1 g2 g3 g4
  obtain ⟨l0, hl0, _, wl0⟩ := DataW.trod_int Try.underlying3 g0
  obtain ⟨l1, hl1, _, wl1⟩ := DataW.trod_int Try.underlying3 g1
  obtain ⟨l2, hl2, _⟩ := DataW.trod_bool Try.underlying4 g2
  obtain ⟨l3, hl3, _, wl3⟩ := DataW.trod_int Try.underlying3 g3
  obtain ⟨l4, hl4, _, wl4⟩ := DataW.trod_int Try.underlying3 g4
  obtain ⟨a1, h1, _, w1⟩ := DataW.trod_int Try.underlying3 f1
  obtain ⟨a2, h2, _, w2⟩ := DataW.trod_int Try.underlying3 f2
  obtain ⟨a3, h3, _, w3⟩ := DataW.trod_int Try.underlying27 f3
  obtain ⟨a4, h4, _⟩ := DataW.trod_bool Try.underlying4 f4
  obtain ⟨a5, h5, _, w5⟩ := DataW.trod_int Try.underlying3 f5
  obtain ⟨a6, h6, _⟩ := DataW.trod_bool Try.underlying4 f6
  obtain ⟨a7, h7, _⟩ := DataW.trod_bool Try.underlying4 f7
  obtain ⟨a8, h8, _⟩ := DataW.trod_bool Try.underlying4 f8
  obtain ⟨vo, os, h9, ro, _⟩ := u64s_cs f9 (hw 9 _ _ rfl rfl)
  obtain ⟨vc, cs, h10, rc, _⟩ := u64s_cs f10 (hw 10 _ _ rfl rfl)
  obtain ⟨vr, R, h11, rr, hq1, hq2⟩ := flds_cs f11 (hw 11 _ _ rfl rfl)
  simp only [List.cons.injEq, and_true] at hl0 hl1 hl2 hl3 hl4 h1 h2 h3 h4 h5 h6 h7 h8 h9 h10 h11
  subst hl0 hl1 hl2 hl3 hl4 h1 h2 h3 h4 h5 h6 h7 h8 h9 h10 h11
  have ha3 : 0 ≤ a3 := by
    simp [Lit.wf, IntKind.min, IntKind.max, IntKind.bits, IntKind.signed] at w3
    omega
  obtain ⟨ao, co, rfl⟩ := ro.sub
  obtain ⟨ac, cc, rfl⟩ := rc.sub
  obtain ⟨ar, cr, rfl⟩ := rr.row.sub
  refine ⟨⟨⟨⟨l0, l1, l2, l3, l4⟩, a1, a2, a3.toNat, a4, a5, a6, a7, a8, os, cs, fl R⟩, ao, ac, ar, co, cc, cr, R⟩, ?_, ⟨⟨ro, rc, rr, rfl⟩, inI_wf w1, inI_wf w2, ⟨inI_wf wl0, inI_wf wl1, inI_wf wl3, inI_wf wl4⟩, inI_wf w5, hq1, hq2⟩⟩
  show Value.agg _ = Value.agg (pgC _ _ _ _)
  unfold pgC
  simp only
  rw [Int.toNat_of_nonneg ha3]
end Go.Proofs.Ythoegjdkeooenaa
