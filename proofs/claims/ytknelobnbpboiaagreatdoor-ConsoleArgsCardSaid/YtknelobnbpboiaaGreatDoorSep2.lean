/-
  Assertions on memory, more: a slice that is made. Program-independent.
-/
import Derived.Test.YtknelobnbpboiaaGreatDoorSep
namespace Go.Mz
open Go.RowKit
set_option linter.unusedVariables false
set_option linter.unusedSimpArgs false

theorem St.own_of_row {w0 w w' : World} {F : SProp} {e : TypeId} {size : Nat} {v : Value} {n : Nat} {xs : List Value} (h : St w0 w F) (hg : w.grownBy w' none) (hr : w'.ownsRow w.heap.size e size v n xs) : St w0 w' (own e size v n xs * F) := by
  have hb : ∀ k, k < w.heap.size → w'.heap[k]? = w.heap[k]? := fun k hk => hg.block k hk (by simp)
  obtain ⟨hl, ⟨rfl, rfl⟩ | ⟨g, cap, cur, rfl, h1, h2, h3, h4, h5, h6⟩⟩ := hr
  · have hx : xs = [] := List.eq_nil_of_length_eq_zero (by simpa using hl)
    subst hx
    exact (h.ext hg.os hg.tape hg.output hg.size hb).own_nil e size
  · exact (h.new hg.os hg.tape hg.output hg.size h1 h2 hb).own_blk h3 h4 h5 h6

/-- 'make([]T, n)'. -/
theorem wpList_make_sep {P : Program} {w0 w : World} {F : SProp} {t e : TypeId} {size bytes : Nat} {z : Value} (T : ElemT P t e size bytes z)
    {ops : Array Oper} {rest : List Oper} {o : Oper} {a : Act} {Q : Exit → Act → World → Prop} (hgd : o.guard = none) (l c : Operand)
    (ho : o.op = .makeSlice t l c) {kl kc : IntKind} {L C : Int} (n : Nat) (hl : a.eval l = .int kl L) (hc : a.eval c = .int kc C) (hL : L = n) (hC : C = n)
    (h : St w0 w F) (h63 : n ≤ maxLen) (hbytes : bytes * n ≤ 281474976710656)
    (hK : ∀ v' w', St w0 w' (own e size v' n (madeCells z.cells (n * size)).toList * F) → wpList P ops Q rest (a.put o.dst v') w') : wpList P ops Q (o :: rest) a w := by
  obtain ⟨ht, ⟨i, hi, hz, hs, hby⟩, hzs, hsz⟩ := T
  exact wpList_make_full w hgd l c t ho w.heap.size e i z size ht hi hz hs kl kc L C n hl hc hL hC (by rw [hby]; exact hbytes) h63 (Nat.le_refl _)
    fun w' hr hg => hK _ _ (h.own_of_row hg hr)

theorem own_at {w0 w : World} {e : TypeId} {size n cap : Nat} {a : Option Addr} {xs : List Value} {F : SProp} (h : St w0 w (own e size (.slice a n cap) n xs * F)) (hn : 0 < n) : ∃ g, a = some ⟨g, 0, none⟩ := by
  obtain ⟨hl, ⟨a1, h0, _⟩ | ⟨g', cap', cur, a1, _⟩⟩ := h.own_split
  · omega
  · cases a1; exact ⟨g', rfl⟩
#print axioms wpList_make_sep
end Go.Mz
