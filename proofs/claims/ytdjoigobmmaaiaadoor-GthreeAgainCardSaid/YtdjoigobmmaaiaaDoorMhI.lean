/-
  Layer 14: texts of bytes that came in.
-/
import Derived.Test.YtdjoigobmmaaiaaDoorStructs
import Derived.Test.YtdjoigobmmaaiaaDoorMhV
namespace Go.Proofs.YtdjoigobmmaaiaaDoor
open Go.RowKit Go.Mz
set_option linter.unusedVariables false
set_option linter.unusedSimpArgs false

theorem bytes_cs {H : Type} {enc : TypeId × Value → H} {w : World} {base : Nat} {spare : Nat → Bool} {held : Bool} {fuel : Nat} {cs : List Value} {x : DataW H × List MemPlace}
    (h : DataW.trod enc Tryd.prog w base spare held fuel 28 cs = some x) :
    ∃ (v : Value) (bs : List UInt8), cs = [v] ∧ Reads w 1 v bs.length (bs.map bv) := by
  rcases Deep.open_slice Tryd.underlying28 h with ⟨h0, _⟩ | ⟨b, l, c, m, n, D, Pl, hcs, _, hl, hm, hmm, _, hi⟩
  · exact ⟨_, [], h0, ⟨rfl, .inl ⟨rfl, rfl⟩⟩⟩
  · have hC : Tryd.prog.cellsOf 5 = 1 := by kernel_rfl
    obtain ⟨L, h1, h2, hx⟩ := reads_of_each (α := UInt8) (fun b => [bv b]) (m := 1) (by decide) (fun _ => rfl) hl hm (fun x => True) (fun i hil => by
      obtain ⟨cs, hc, ht⟩ := hi i (by rw [hmm]; split <;> omega)
      rw [hC] at hc
      obtain ⟨_, hlen, hat⟩ := World.cells?_some hc
      obtain ⟨z, rfl, _, hw⟩ := DataW.trod_int Tryd.underlying5 ht
      have hz : 0 ≤ z ∧ z < 256 := by
        simp [Lit.wf, IntKind.min, IntKind.max, IntKind.bits, IntKind.signed] at hw
        omega
      refine ⟨UInt8.ofNat z.toNat, fun j u hu => ?_, trivial⟩
      cases j with
      | zero =>
        cases hu
        have := hat 0 (by decide)
        rw [Deep.add_add] at this
        show _ = some (Value.int .u8 ((UInt8.ofNat z.toNat).toNat : Int))
        have e : (UInt8.ofNat z.toNat).toNat = z.toNat := by simp; omega
        rw [e, Int.toNat_of_nonneg hz.1]
        exact this
      | succ j => simp at hu)
    have e : L.flatMap (fun b => [bv b]) = L.map bv := by
      clear h1 h2 hx
      induction L with
      | nil => rfl
      | cons b l ih => rw [List.flatMap_cons, ih]; rfl
    rw [e] at h2
    exact ⟨_, L, hcs, by rw [h1]; exact h2⟩
/-- Texts, each with its slice. -/
def textsIn (w : World) (L : List (Value × List UInt8)) : Prop := ∀ x ∈ L, Reads w 1 x.1 x.2.length (x.2.map bv)
theorem rows_in {H : Type} {enc : TypeId × Value → H} {w : World} {base : Nat} {spare : Nat → Bool} {held : Bool} {fuel : Nat} {a : Option Addr} {len cap : Nat} {x : DataW H × List MemPlace}
    (h : DataW.trod enc Tryd.prog w base spare held fuel 22 (Value.slice a len cap).cells.toList = some x) :
    ∃ L : List (Value × List UInt8), L.length = len ∧ Reads w 1 (.slice a len cap) len (L.map Prod.fst) ∧ textsIn w L := by
  rcases Deep.open_slice Tryd.underlying22 h with ⟨h0, _⟩ | ⟨b, l, c, m, n, D, Pl, hcs, _, hl, hm, hmm, _, hi⟩
  · simp [Value.cells] at h0
    obtain ⟨rfl, rfl, rfl⟩ := h0
    exact ⟨[], rfl, ⟨rfl, .inl ⟨rfl, rfl⟩⟩, fun x hx => by cases hx⟩
  · simp [Value.cells] at hcs
    obtain ⟨rfl, rfl, rfl⟩ := hcs
    have hC : Tryd.prog.cellsOf 28 = 1 := by kernel_rfl
    obtain ⟨L, h1, h2, hx⟩ := reads_of_each (α := Value × List UInt8) (fun b => [b.1]) (m := 1) (by decide) (fun _ => rfl) hl hm (fun x => Reads w 1 x.1 x.2.length (x.2.map bv)) (fun i hil => by
      obtain ⟨cs, hc, ht⟩ := hi i (by rw [hmm]; split <;> omega)
      rw [hC] at hc
      obtain ⟨_, hlen, hat⟩ := World.cells?_some hc
      obtain ⟨v, bs, rfl, hv⟩ := bytes_cs ht
      refine ⟨(v, bs), fun j u hu => ?_, hv⟩
      cases j with
      | zero =>
        cases hu
        have := hat 0 (by decide)
        rw [Deep.add_add] at this
        exact this
      | succ j => simp at hu)
    have e : L.flatMap (fun b => [b.1]) = L.map Prod.fst := by
      clear h1 h2 hx
      induction L with
      | nil => rfl
      | cons b l ih => rw [List.flatMap_cons, ih]; rfl
    rw [e] at h2
    exact ⟨L, h1, h2, hx⟩
end Go.Proofs.YtdjoigobmmaaiaaDoor
