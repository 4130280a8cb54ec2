/-
  Layer 23: fields and pages as they come in.
-/
import Derived.Test.YthoegjdkeooenaaTagZ
import Derived.SizedLaws
namespace Go.Proofs.Ythoegjdkeooenaa
open Go.RowKit Go.Mz Go.ChangeShapes
set_option linter.unusedVariables false
set_option linter.unusedSimpArgs false
set_option maxRecDepth 100000

instance : Inhabited FV := ⟨(.slice none 0 0, ⟨0, 0, []⟩)⟩
theorem weightsAll_mem {H : Type} {P : Program} {e : TypeId} : ∀ {l : List (DataW H)} {d : DataW H}, d ∈ l → ∀ n ∈ d.weights P e, n ∈ DataW.weightsAll P e l
  | d' :: r, d, hd, n, hn => by
    simp only [DataW.weightsAll, List.mem_append]
    rcases List.mem_cons.1 hd with rfl | h
    · exact Or.inl hn
    · exact Or.inr (weightsAll_mem h n hn)
section
variable {H : Type} {enc : TypeId × Value → H} {w : World} {base : Nat} {spare : Nat → Bool} {held : Bool}
theorem u64s_cs {fuel : Nat} {cs : List Value} {x : DataW H × List MemPlace} (h : DataW.trod enc Try.prog w base spare held fuel 28 cs = some x) (hz : ∀ n ∈ x.1.weights Try.prog 28, n ≤ reachBytes) :
    ∃ (v : Value) (bs : List Nat), cs = [v] ∧ Reads w 1 v bs.length (bs.map u64v) ∧ bs.length ≤ 35184372088832 := by
  rcases Deep.open_slice Try.underlying28 h with ⟨h0, _⟩ | ⟨b, l, c, m, n, D, Pl, hcs, _, hl, hm, hmm, hxx, hi⟩
  · exact ⟨_, [], h0, ⟨rfl, .inl ⟨rfl, rfl⟩⟩, by simp⟩
  · have hC : Try.prog.cellsOf 27 = 1 := by kernel_rfl
    have hb8 : Try.prog.bytesOf 27 = 8 := by kernel_rfl
    have hlen : l ≤ 35184372088832 := by
      have h1 := hz ((l + (m - l)) * 8) (by
        rw [hxx]
        simp [DataW.weights, Try.underlying28, hb8])
      unfold reachBytes at h1
      omega
    obtain ⟨L, h1, h2, hx⟩ := reads_of_each (α := Nat) (fun b => [u64v b]) (m := 1) (by decide) (fun _ => rfl) hl hm (fun x => True) (fun i hil => by
      obtain ⟨cs, hc, ht⟩ := hi i (by rw [hmm]; split <;> omega)
      rw [hC] at hc
      obtain ⟨_, hlen, hat⟩ := World.cells?_some hc
      obtain ⟨z, rfl, _, hw⟩ := DataW.trod_int Try.underlying27 ht
      have hz : 0 ≤ z := by
        simp [Lit.wf, IntKind.min, IntKind.max, IntKind.bits, IntKind.signed] at hw
        omega
      refine ⟨z.toNat, fun j u hu => ?_, trivial⟩
      cases j with
      | zero =>
        cases hu
        have := hat 0 (by decide)
        rw [Deep.add_add] at this
        show _ = some (Value.int .u64 (z.toNat : Int))
        rw [Int.toNat_of_nonneg hz]
        exact this
      | succ j => simp at hu)
    have e : L.flatMap (fun b => [u64v b]) = L.map u64v := by
      clear h1 h2 hx hz hlen
      induction L with
      | nil => rfl
      | cons b l ih => rw [List.flatMap_cons, ih]; rfl
    rw [e] at h2
    exact ⟨_, L, hcs, by rw [h1]; exact h2, by rw [h1]; exact hlen⟩
def FldIn (w : World) (y : FV) : Prop := Reads w 1 y.1 y.2.vals.length (y.2.vals.map u64v) ∧ y.2.vals.length ≤ 35184372088832 ∧ y.2.tag < 65536
theorem fld_cs {fuel : Nat} {cs : List Value} {x : DataW H × List MemPlace} (h : DataW.trod enc Try.prog w base spare held fuel 53 cs = some x) (hz : ∀ n ∈ x.1.weights Try.prog 53, n ≤ reachBytes) (hlen : cs.length = 3) :
    ∃ y : FV, cs = fldC y ∧ FldIn w y := by
  have hU : Try.prog.cellsOf 43 = 1 := by kernel_rfl
  have hE : Try.prog.cellsOf 3 = 1 := by kernel_rfl
  have hS : Try.prog.cellsOf 28 = 1 := by kernel_rfl
  obtain ⟨c0, c1, c2, rfl⟩ : ∃ c0 c1 c2, cs = [c0, c1, c2] := by
    match cs, hlen with
    | [a, b, c], _ => exact ⟨a, b, c, rfl⟩
  obtain ⟨ys, m, _, hxx, _, hyl, hf⟩ := DataW.trod_struct Try.underlying53 h
  obtain ⟨y0, y1, y2, rfl⟩ : ∃ y0 y1 y2, ys = [y0, y1, y2] := by
    match ys, hyl with
    | [a, b, c], _ => exact ⟨a, b, c, rfl⟩
  have f0 := hf 0 _ rfl
  have f1 := hf 1 _ rfl
  have f2 := hf 2 _ rfl
  simp [hU, hE, hS] at f0 f1 f2
  obtain ⟨a, ha, _, wa⟩ := DataW.trod_int Try.underlying43 f0
  obtain ⟨b, hb, _, _⟩ := DataW.trod_int Try.underlying3 f1
  obtain ⟨v, vs, hv, hr, hl⟩ := u64s_cs f2 (fun n hn => hz n (by
    rw [hxx]
    simp only [DataW.weights, Try.underlying53, List.map_cons, List.map_nil]
    exact DataW.weights_mem_each (j := 2) rfl rfl n hn))
  simp only [List.cons.injEq, and_true] at ha hb hv
  subst ha hb hv
  have ha : 0 ≤ a ∧ a < 65536 := by
    simp [Lit.wf, IntKind.min, IntKind.max, IntKind.bits, IntKind.signed] at wa
    omega
  refine ⟨(c2, ⟨a.toNat, b, vs⟩), ?_, hr, hl, by show a.toNat < 65536; omega⟩
  show _ = [Value.int .u16 (a.toNat : Int), _, _]
  rw [Int.toNat_of_nonneg ha.1]
theorem flds_cs {fuel : Nat} {cs : List Value} {x : DataW H × List MemPlace} (h : DataW.trod enc Try.prog w base spare held fuel 22 cs = some x) (hz : ∀ n ∈ x.1.weights Try.prog 22, n ≤ reachBytes) :
    ∃ (v : Value) (L : List FV), cs = [v] ∧ FldsR w v L ∧ (∀ y ∈ L, y.2.tag < 65536) ∧ ∀ y ∈ L, y.2.vals.length ≤ 35184372088832 := by
  rcases Deep.open_slice Try.underlying22 h with ⟨h0, _⟩ | ⟨b, l, c, m, n, D, Pl, hcs, _, hl, hm, hmm, hxx, hi⟩
  · exact ⟨_, [], h0, ⟨⟨rfl, .inl ⟨rfl, rfl⟩⟩, fun x hx => by cases hx⟩, fun x hx => (by cases hx), fun x hx => (by cases hx)⟩
  · have hC : Try.prog.cellsOf 53 = 3 := by kernel_rfl
    obtain ⟨L, h1, h2, hx⟩ := reads_of_each (α := FV) fldC (m := 3) (by decide) (fun _ => rfl) hl hm (FldIn w) (fun i hil => by
      obtain ⟨cs, hc, ht⟩ := hi i (by rw [hmm]; split <;> omega)
      rw [hC] at hc
      obtain ⟨_, hlen, hat⟩ := World.cells?_some hc
      obtain ⟨y, rfl, hy⟩ := fld_cs ht (fun n hn => hz n (by
        rw [hxx]
        simp only [DataW.weights, Try.underlying22, List.mem_cons, List.mem_append]
        exact .inr (.inl (weightsAll_mem (List.mem_map.2 ⟨i, List.mem_range.2 hil, rfl⟩) n hn)))) hlen
      refine ⟨y, fun j u hu => ?_, hy⟩
      have hj : j < 3 := (List.getElem?_eq_some_iff.1 hu).1
      have := hat j hj
      rw [Deep.add_add] at this
      rw [this]; exact hu)
    refine ⟨_, L, hcs, ⟨by rw [h1]; exact h2, fun y hy => (hx y hy).1⟩, fun y hy => (hx y hy).2.2, fun y hy => (hx y hy).2.1⟩
theorem flds_in {fuel : Nat} {a : Option Addr} {len cap : Nat} {x : DataW H × List MemPlace} (h : DataW.trod enc Try.prog w base spare held fuel 22 (Value.slice a len cap).cells.toList = some x) (hz : ∀ n ∈ x.1.weights Try.prog 22, n ≤ reachBytes) :
    ∃ L : List FV, L.length = len ∧ FldsR w (.slice a len cap) L ∧ ((∀ y ∈ L, y.2.tag < 65536) ∧ ∀ y ∈ L, y.2.vals.length ≤ 35184372088832) := by
  obtain ⟨v, L, hv, hr, hq⟩ := flds_cs h hz
  have hv2 : Value.slice a len cap = v := by simpa [Value.cells] using hv
  subst hv2
  obtain ⟨a', c', e⟩ := hr.row.sub
  cases e
  exact ⟨L, rfl, hr, hq⟩
end
end Go.Proofs.Ythoegjdkeooenaa
