/-
  Layer 8 (inflate): the document's telling of tokens (package mezzotintref08).
-/
import Derived.Test.YtddifndfppilkaaGreatTokN
import Derived.Test.YtddifndfppilkaaGreatRefW
import Derived.Test.YtddifndfppilkaaGreatInfR
import Derived.Test.YtddifndfppilkaaGreatRef02
import Derived.Test.YtddifndfppilkaaGreatStructs
import Derived.RegionTactic
import Derived.BigRegion
namespace Go.Proofs.YtddifndfppilkaaGreat
open Go.RowKit Go.Mz
set_option linter.unusedVariables false
set_option linter.unusedSimpArgs false
set_option maxRecDepth 100000

theorem fromsL_cond (far : Bool) : fromsL far = cond far distsB lensB := by cases far <;> rfl
theorem fromsL_le (far : Bool) : ∀ b ∈ fromsL far, b.1 ≤ 100000 ∧ b.2 ≤ 13 := by cases far <;> decide
theorem fromsL_len (far : Bool) : 1 ≤ (fromsL far).length ∧ (fromsL far).length ≤ 30 := by cases far <;> decide


def tokC (k : TokD) : List Value := [.int .u8 (k.lit.toNat : Int), .int .i64 k.len, .int .i64 k.dist]
def toksC (l : List TokD) : List Value := l.flatMap tokC
theorem toksC_get (l : List TokD) (k : Nat) (o : TokD) (h : l[k]? = some o) (j : Nat) (hj : j < 3) : (toksC l)[k * 3 + j]? = (tokC o)[j]? :=
  flat_get tokC 3 (fun _ => rfl) l k o h j hj
/-- The cells of element k. -/
theorem reads_tok {w : World} {a : Option Addr} {cap n : Nat} {l : List TokD} (h : Reads w 3 (.slice a n cap) n (toksC l)) {k : Nat} {o : TokD} (hk : l[k]? = some o) :
    ∃ b off, a = some ⟨b, off, none⟩ ∧ w.cell? ⟨b, off + k * 3, none⟩ = some (.int .u8 (o.lit.toNat : Int)) ∧ w.cell? ⟨b, off + k * 3 + 1, none⟩ = some (.int .i64 o.len) ∧ w.cell? ⟨b, off + k * 3 + 2, none⟩ = some (.int .i64 o.dist) := by
  obtain ⟨hl, ⟨e, rfl⟩ | ⟨⟨b, off, spot⟩, c, e, h1, h2, h3⟩⟩ := h
  · have : l = [] := by
      cases l with
      | nil => rfl
      | cons p l => simp [toksC, tokC] at hl
    simp [this] at hk
  · cases e
    have g := fun j hj => toksC_get l k o hk j hj
    have h00 : ∃ u, (toksC l)[0]? = some u := by
      have : k < l.length := (List.getElem?_eq_some_iff.1 hk).1
      cases l with
      | nil => simp at this
      | cons p l => exact ⟨_, rfl⟩
    obtain ⟨u0, hu0⟩ := h00
    have hspot : spot = none := by simpa [Addr.add] using World.cell?_spot (h3 0 u0 hu0)
    subst hspot
    refine ⟨b, off, rfl, ?_, ?_, ?_⟩
    · have := h3 _ _ ((g 0 (by decide)).trans rfl); rw [Addr.add_lit] at this; exact this
    · have := h3 _ _ ((g 1 (by decide)).trans rfl); rw [Addr.add_lit] at this; exact this
    · have := h3 _ _ ((g 2 (by decide)).trans rfl); rw [Addr.add_lit] at this; exact this


end Go.Proofs.YtddifndfppilkaaGreat
