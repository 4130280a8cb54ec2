/-
  Layer 6 (huff): a book's places, as plain Lean; slices of elements of more than one cell. No program.
-/
import Derived.Test.YtljdohfdafnnaaaDoorSepL
import Derived.Test.YtljdohfdafnnaaaDoorTxM
import Derived.Test.YtljdohfdafnnaaaDoorStructs
namespace Go.Mz
open Go.RowKit
set_option linter.unusedVariables false
set_option linter.unusedSimpArgs false

theorem flat_set {α : Type} (enc : α → List Value) (m : Nat) (hm : ∀ x, (enc x).length = m) (l : List α) (k : Nat) (x y : α) (h : l[k]? = some x) (j : Nat) (hj : j < m) (v : Value) (hv : (enc x).set j v = enc y) :
    (l.flatMap enc).set (k * m + j) v = (l.set k y).flatMap enc := by
  induction l generalizing k with
  | nil => simp at h
  | cons p l ih =>
    cases k with
    | zero =>
      simp only [List.getElem?_cons_zero, Option.some.injEq] at h
      subst h
      rw [List.flatMap_cons, Nat.zero_mul, Nat.zero_add, List.set_append_left _ _ (by rw [hm]; exact hj), hv, List.set_cons_zero, List.flatMap_cons]
    | succ k =>
      simp only [List.getElem?_cons_succ] at h
      rw [List.flatMap_cons, List.set_append_right _ _ (by rw [hm, Nat.succ_mul]; omega), List.set_cons_succ, List.flatMap_cons, ← ih k h, hm]
      congr 2; rw [Nat.succ_mul]; omega

theorem St.own_setS {w0 w : World} {e : TypeId} {g n cap size : Nat} {xs : List Value} {F : SProp} (h : St w0 w (own e size (.slice (some ⟨g, 0, none⟩) n cap) n xs * F)) (i : Nat) (u : Value) :
    St w0 (w.setCell ⟨g, i, none⟩ u) (own e size (.slice (some ⟨g, 0, none⟩) n cap) n (xs.set i u) * F) := by
  obtain ⟨hl, ⟨a1, _⟩ | ⟨g', cap', cur, a1, a2, a3, a4, a5, a6⟩⟩ := h.own_split
  · cases a1
  · cases a1
    refine St.own_blk (a6.set i u) a2 a3 (by simpa using a4) ?_
    rw [← a5, Array.toList_setIfInBounds, List.take_set]
theorem St.own_cellS {w0 w : World} {e : TypeId} {g n cap size : Nat} {xs : List Value} {F : SProp} (h : St w0 w (own e size (.slice (some ⟨g, 0, none⟩) n cap) n xs * F)) {i : Nat} {u : Value} (hu : xs[i]? = some u) : w.cell? ⟨g, i, none⟩ = some u := by
  obtain ⟨hl, ⟨a1, _⟩ | ⟨x, c, a1, a2, a3, a4⟩⟩ := h.reads
  · cases a1
  · cases a1
    have := a4 i u hu
    rw [Addr.add_lit, Nat.zero_add] at this
    exact this

/-- A place in a book. -/
structure Nd where
  n0 : Nat
  n1 : Nat
  mean : Int
def Nd.nx (d : Nd) (c : Nat) : Nat := if c = 0 then d.n0 else d.n1
def Nd.put (d : Nd) (c x : Nat) : Nd := if c = 0 then { d with n0 := x } else { d with n1 := x }
def nd0 : Nd := ⟨0, 0, -1⟩
def ndV (d : Nd) : List Value := [.int .i64 (d.n0 : Int), .int .i64 (d.n1 : Int), .int .i64 d.mean]
theorem length_ndV (d : Nd) : (ndV d).length = 3 := rfl
def flatN (N : List Nd) : List Value := N.flatMap ndV
theorem length_flatN (N : List Nd) : (flatN N).length = N.length * 3 := length_flat ndV 3 length_ndV N
theorem flatN_snoc (N : List Nd) (d : Nd) : flatN (N ++ [d]) = flatN N ++ ndV d := by simp [flatN]
theorem flatN_mean {N : List Nd} {k : Nat} {d : Nd} (h : N[k]? = some d) : (flatN N)[k * 3 + 2]? = some (.int .i64 d.mean) := by
  rw [flatN, flat_get ndV 3 length_ndV N k d h 2 (by omega)]; rfl
theorem flatN_next {N : List Nd} {k : Nat} {d : Nd} (h : N[k]? = some d) {c : Nat} (hc : c ≤ 1) : (flatN N)[k * 3 + c]? = some (.int .i64 (d.nx c : Int)) := by
  rw [flatN, flat_get ndV 3 length_ndV N k d h c (by omega)]
  have : c = 0 ∨ c = 1 := by omega
  rcases this with rfl | rfl <;> rfl
theorem flatN_setMean {N : List Nd} {k : Nat} {d : Nd} (h : N[k]? = some d) (m : Int) : (flatN N).set (k * 3 + 2) (.int .i64 m) = flatN (N.set k { d with mean := m }) :=
  flat_set ndV 3 length_ndV N k d _ h 2 (by omega) _ rfl
theorem flatN_setNext {N : List Nd} {k : Nat} {d : Nd} (h : N[k]? = some d) {c : Nat} (hc : c ≤ 1) (x : Nat) : (flatN N).set (k * 3 + c) (.int .i64 (x : Int)) = flatN (N.set k (d.put c x)) := by
  have : c = 0 ∨ c = 1 := by omega
  rcases this with rfl | rfl
  · exact flat_set ndV 3 length_ndV N k d _ h 0 (by omega) _ rfl
  · exact flat_set ndV 3 length_ndV N k d _ h 1 (by omega) _ rfl

/-- Lays a word: from a place on. The places; the error. -/
def layS (mean : Nat) : List Nd → Nat → List UInt8 → List Nd × Nat
  | N, at_, [] =>
    let d := N.getD at_ nd0
    if 0 ≤ d.mean ∨ d.n0 ≠ 0 ∨ d.n1 ≠ 0 then (N, 14) else (N.set at_ { d with mean := mean }, 0)
  | N, at_, ch :: s =>
    let d := N.getD at_ nd0
    let c := if ch = 48 then 0 else 1
    if ch ≠ 48 ∧ ch ≠ 49 then (N, 3)
    else if 0 ≤ d.mean then (N, 14)
    else if d.nx c = 0 then layS mean ((N ++ [nd0]).set at_ (d.put c N.length)) N.length s
    else layS mean N (d.nx c) s
def lay (N : List Nd) (s : List UInt8) (mean : Nat) : List Nd × Nat := if s = [] then (N, 0) else layS mean N 0 s

/-- Where places lead there are places. -/
def NOk (N : List Nd) : Prop := 0 < N.length ∧ ∀ d ∈ N, d.n0 < N.length ∧ d.n1 < N.length
theorem NOk.one : NOk [nd0] := ⟨by simp, fun d hd => by simp at hd; subst hd; simp [nd0]⟩
theorem NOk.nx {N : List Nd} (h : NOk N) {k : Nat} {d : Nd} (hd : N[k]? = some d) (c : Nat) : d.nx c < N.length := by
  have := h.2 d (List.mem_of_getElem? hd)
  unfold Nd.nx; split
  · exact this.1
  · exact this.2
theorem NOk.more {N : List Nd} (h : NOk N) {k : Nat} {d : Nd} (hd : N[k]? = some d) (c : Nat) : NOk ((N ++ [nd0]).set k (d.put c N.length)) := by
  refine ⟨by simp, fun x hx => ?_⟩
  rw [List.length_set, List.length_append, List.length_singleton]
  have hN := h.1
  rcases List.mem_or_eq_of_mem_set hx with hx | rfl
  · rw [List.mem_append, List.mem_singleton] at hx
    rcases hx with hx | rfl
    · have := h.2 x hx; omega
    · simp [nd0]
  · have := h.2 d (List.mem_of_getElem? hd)
    unfold Nd.put; split
    · exact ⟨by simp, by simp only; omega⟩
    · exact ⟨by simp only; omega, by simp⟩
theorem NOk.mean {N : List Nd} (h : NOk N) {k : Nat} {d : Nd} (hd : N[k]? = some d) (m : Int) : NOk (N.set k { d with mean := m }) := by
  refine ⟨by rw [List.length_set]; exact h.1, fun x hx => ?_⟩
  rw [List.length_set]
  rcases List.mem_or_eq_of_mem_set hx with hx | rfl
  · exact h.2 x hx
  · exact h.2 d (List.mem_of_getElem? hd)
#print axioms flatN_setNext
end Go.Mz
