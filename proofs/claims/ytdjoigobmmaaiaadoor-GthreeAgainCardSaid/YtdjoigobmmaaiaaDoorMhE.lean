/-
  Layer 14 (mh): so many rows.
-/
import Derived.Test.YtdjoigobmmaaiaaDoorMhR
import Derived.Test.YtdjoigobmmaaiaaDoorMhB
import Derived.Test.YtdjoigobmmaaiaaDoorWr
namespace Go.Proofs.YtdjoigobmmaaiaaDoor
open Go.RowKit Go.Mz
set_option linter.unusedVariables false
set_option linter.unusedSimpArgs false
set_option maxRecDepth 100000

/-- Rows, each with its slice. -/
def rowsP : List (Value × List Nat) → SProp
  | [] => emp
  | x :: r => own 3 1 x.1 x.2.length (x.2.map nv) * rowsP r
theorem rowsP_snoc (R : List (Value × List Nat)) (x : Value × List Nat) : rowsP (R ++ [x]) = own 3 1 x.1 x.2.length (x.2.map nv) * rowsP R := by
  induction R with
  | nil => rfl
  | cons y r ih => rw [List.cons_append, rowsP, ih, rowsP]; ac_rfl
theorem rowsP_reads {w0 w : World} : ∀ (R : List (Value × List Nat)) (F : SProp), St w0 w (rowsP R * F) → ∀ x ∈ R, Reads w 1 x.1 x.2.length (x.2.map nv) := by
  intro R
  induction R with
  | nil => intro F _ x hx; cases hx
  | cons y r ih =>
    intro F h x hx
    have h : St w0 w (own 3 1 y.1 y.2.length (y.2.map nv) * (rowsP r * F)) := h.perm (by rw [rowsP, star_assoc])
    rcases List.mem_cons.1 hx with rfl | hx
    · exact h.reads
    · exact ih _ h.right x hx
theorem rowsP_nil {w0 w : World} {F : SProp} (h : St w0 w F) : St w0 w (rowsP [] * F) := h.perm (emp_star F).symm
theorem elemRows : ElemT Tryd.prog 25 41 1 24 (.slice none 0 0) :=
  ⟨Tryd.underlying25, info_parts (by kernel_rfl), rfl, by decide⟩

def decF (t : List Nat) (width : Nat) : Nat → Nat → List (List Nat) → (List (List Nat) ⊕ Nat)
  | 0, _, acc => .inl acc
  | n + 1, p, acc =>
    match readRow t width p with
    | (_, .inr e) => .inr e
    | (k, .inl px) => decF t width n ((k + 7) / 8 * 8) (acc ++ [px])
def okD : (List (List Nat) ⊕ Nat) → List (List Nat)
  | .inl a => a
  | .inr _ => []
def erD : (List (List Nat) ⊕ Nat) → Nat
  | .inl _ => 0
  | .inr e => e

theorem reads_row1 (w : World) (v : Value) : Reads (w.alloc (.cells #[v] 41)) 1 (.slice (some ⟨w.heap.size, 0, none⟩) 1 1) 1 [v] :=
  (St.own_blk (e := 41) (size := 1) (n := 1) (cap := 1) (xs := [v]) ((St.init w).alloc _) (Nat.le_refl _) (by decide) rfl rfl).reads


def encF (width : Nat) : List (List Nat) → List Nat → List Nat
  | [], acc => acc
  | l :: r, acc => encF width r (alignL (acc ++ rowB false (lensF 0 l width)))
/-- A row's places. -/
def RowOk (width : Nat) (l : List Nat) : Prop := l.Pairwise (· < ·) ∧ (∀ x ∈ l, x < width) ∧ l.length ≤ 400
theorem alignL_len (l : List Nat) : (alignL l).length ≤ l.length + 7 := by
  rw [alignL, List.length_append, List.length_replicate]; omega
theorem rowB_lenF {width : Nat} {l : List Nat} (h : RowOk width l) (hw : width ≤ 32768) : (rowB false (lensF 0 l width)).length ≤ 300 * 401 := by
  have := rowB_len (lensF 0 l width) false (fun x hx => by have := lensF_le l width 0 h.2.1 x hx; omega)
  rw [lensF_len] at this
  have := h.2.2
  omega




end Go.Proofs.YtdjoigobmmaaiaaDoor
