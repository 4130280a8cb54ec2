/-
  Layer 14: the chapter's example, and a text's bytes as pixels.
-/
import Derived.Test.YtdjoigobmmaaiaaDoorMhR
import Derived.Test.YtdjoigobmmaaiaaDoorMhA
import Derived.Below
namespace Go.Proofs.YtdjoigobmmaaiaaDoor
open Go.RowKit Go.Mz
set_option linter.unusedVariables false
set_option linter.unusedSimpArgs false
set_option maxRecDepth 100000

theorem tab_old {w : World} (h : Lib.TabIs Tryd.prog w "strings.asciiSpace" .u8 Lib.asciiSpaceTab) : Tab w (Mz.old w) := fun w' s => by
  have B : Below w.heap.size w w' := (s.perm ((emp_star _).symm.trans (star_comm _ _))).below
  unfold Lib.TabIs World.var? at h ⊢
  cases hg : Tryd.prog.globalNamed "strings.asciiSpace" with
  | none => rw [hg] at h; simp at h
  | some g =>
    rw [hg] at h
    simp only [Option.bind_some] at h ⊢
    have hlt : g < w.heap.size := by
      rcases Nat.lt_or_ge g w.heap.size with h' | h'
      · exact h'
      · simp [Array.getElem?_eq_none h'] at h
    rw [B.block g hlt]
    exact h

theorem wpList_b2sW {P : Program} {src dst e : TypeId} (hs : P.underlying src = some (.slice e)) (he : P.underlying e = some (.int .u8)) (hd : P.underlying dst = some .string)
    {ops : Array Oper} {rest : List Oper} {o : Oper} {a : Act} {w : World} {Q : Exit → Act → World → Prop} (hw : Region.wanted o (yielded ops a.tmps) = true) {x : Operand} (ho : o.op = .convert src dst x)
    {n : Nat} {bs : List UInt8} (hr : Reads w 1 (a.eval x) n (bs.map bv)) (hK : wpList P ops Q rest (a.put o.dst (.string ⟨bs.toArray⟩)) w) : wpList P ops Q (o :: rest) a w := by
  refine BigFrame.wpList_want hw fun K hk => ?_
  unfold Oper.wp execOp
  simp only [ho, Sem.run_bind, run_b2s hs he hd hr, Result.andThen_ok, Sem.run_pure]
  exact hk _ _ hK

def pxL (bs : List UInt8) : List Nat := bs.map fun c => c.toNat % 2
theorem bit_pxL (bs : List UInt8) : Bit (pxL bs) := fun b hb => by
  obtain ⟨c, _, rfl⟩ := List.mem_map.1 hb
  omega
@[simp] theorem length_pxL (bs : List UInt8) : (pxL bs).length = bs.length := by simp [pxL]

theorem and1_u8 (x : Nat) (h : x < 256) : bits .and .u8 (x : Int) 1 = ((x % 2 : Nat) : Int) := by
  have := u8_and_nat x 1 h (by decide)
  rw [nat_mask1] at this; exact this


theorem liv_row : rowB false (lensF 0 [2, 4, 7] 8) = [0, 1, 1, 1, 1, 1, 1, 0, 0, 0, 0, 1, 0] := by decide +kernel
theorem liv_bytes : bytesB false [0, 1, 1, 1, 1, 1, 1, 0, 0, 0, 0, 1, 0] = [126, 16] := by decide +kernel
theorem liv_read : readRow (bitsL false [126, 16]) 8 0 = (13, .inl [0, 0, 1, 1, 0, 0, 0, 1]) := by decide +kernel
theorem liv_chg : chg [0, 0, 1, 1, 0, 0, 0, 1] = [2, 4, 7] := by decide +kernel


end Go.Proofs.YtdjoigobmmaaiaaDoor
