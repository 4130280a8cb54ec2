/-
  Whole structs in memory: what is read out of a block, and what is stored over one. Program-independent.
-/
import Derived.Test.YtknelobnbpboiaaGreatDoorSep
import Derived.Laws.Rows
import Derived.Laws.Tables
namespace Go.Mz
open Go.RowKit
set_option linter.unusedVariables false
set_option linter.unusedSimpArgs false

theorem St.setRow {w0 w : World} {b : Nat} {c : Array Value} {e : TypeId} {F : SProp} (h : St w0 w (blk b (.cells c e) * F)) (cells : Array Value) :
    St w0 (w.setRow b cells) (blk b (.cells cells e) * F) :=
  h.upd rfl rfl rfl (by simp) (setRow_heap w b c cells e _ h.at_) (fun k _ hk => setRow_other w b k cells (fun e => hk (by simp [e])))
theorem wpList_load_blk {P : Program} {w0 w : World} {F : SProp} {ops : Array Oper} {rest : List Oper} {o : Oper} {a : Act} {Q : Exit → Act → World → Prop} (hgd : o.guard = none) (ty : TypeId) (x : Operand) (ho : o.op = .load ty x)
    {g : Nat} {cs : Array Value} {e : TypeId} {fr : Nat × Nat} (h : St w0 w (blk g (.cells cs e fr) * F)) (hx : a.eval x = .pointer (some ⟨g, 0, none⟩)) {d : TypeDesc}
    (hu : P.underlying ty = some d) (hd : (match d with | .struct _ | .array _ _ => true | _ => false) = true) (hi : (P.info? ty).map (·.size) = some cs.size)
    (hK : wpList P ops Q rest (a.put o.dst (.agg cs)) w) : wpList P ops Q (o :: rest) a w :=
  wpList_load_row hgd ty x ho g hx e cs fr d h.at_ hu hd hi hK
theorem wpList_store_blk {P : Program} {w0 w : World} {F : SProp} {ops : Array Oper} {rest : List Oper} {o : Oper} {a : Act} {Q : Exit → Act → World → Prop} (hgd : o.guard = none) (ty : TypeId) (x y : Operand) (ho : o.op = .store ty x y)
    {g : Nat} {old cells : Array Value} {e : TypeId} (h : St w0 w (blk g (.cells old e) * F)) (hx : a.eval x = .pointer (some ⟨g, 0, none⟩)) (hy : a.eval y = .agg cells)
    (hi : (P.info? ty).map (·.size) = some cells.size) (hold : old.size = cells.size) (h1 : cells.toList.all (·.oneCell') = true)
    (hK : wpList P ops Q rest (a.put o.dst undef) (w.setRow g cells)) : wpList P ops Q (o :: rest) a w :=
  wpList_store_row hgd ty x y ho g cells hx hy e old h.at_ hi hold (by rw [← Array.all_toList]; exact h1) hK
#print axioms wpList_store_blk
end Go.Mz
