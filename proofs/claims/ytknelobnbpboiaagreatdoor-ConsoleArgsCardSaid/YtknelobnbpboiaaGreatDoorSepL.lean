/-
  Assertions on memory as a list of pieces: for statements whose order is open. Program-independent.
-/
import Derived.Test.YtknelobnbpboiaaGreatDoorSep2
import Derived.Deep.RegionLaw
namespace Go.Mz
open Go.RowKit
set_option linter.unusedVariables false
set_option linter.unusedSimpArgs false

def prodL : List SProp → SProp
  | [] => emp
  | A :: l => A * prodL l
def StL (w0 w : World) (l : List SProp) : Prop := St w0 w (prodL l)

theorem prodL_at {l : List SProp} {i : Nat} {A : SProp} (h : l[i]? = some A) : ∃ F, prodL l = A * F ∧ ∀ B, prodL (l.set i B) = B * F := by
  induction l generalizing i with
  | nil => simp at h
  | cons C l ih =>
    cases i with
    | zero =>
      simp at h
      subst h
      exact ⟨prodL l, rfl, fun B => rfl⟩
    | succ i =>
      simp at h
      obtain ⟨F, h1, h2⟩ := ih h
      exact ⟨C * F, by rw [prodL, h1, star_left_comm], fun B => by rw [List.set_cons_succ, prodL, h2, star_left_comm]⟩
theorem prodL_snoc (l : List SProp) (A : SProp) : prodL (l ++ [A]) = A * prodL l := by
  induction l with
  | nil => simp [prodL]
  | cons C l ih => rw [List.cons_append, prodL, ih, prodL, star_left_comm]

theorem StL.at_ {w0 w : World} {l : List SProp} {i : Nat} {A : SProp} (h : StL w0 w l) (hi : l[i]? = some A) : ∃ F, St w0 w (A * F) := by
  obtain ⟨F, h1, _⟩ := prodL_at hi
  exact ⟨F, St.perm h h1⟩
theorem StL.upd {w0 w w' : World} {l : List SProp} {i : Nat} {A B : SProp} (h : StL w0 w l) (hi : l[i]? = some A) (f : ∀ F, St w0 w (A * F) → St w0 w' (B * F)) : StL w0 w' (l.set i B) := by
  obtain ⟨F, h1, h2⟩ := prodL_at hi
  exact St.perm (f F (St.perm h h1)) (h2 B).symm
theorem StL.alloc {w0 w : World} {l : List SProp} (h : StL w0 w l) {b : Nat} (hb : b = w.heap.size) (o : Obj) : StL w0 (w.alloc o) (l ++ [blk b o]) := by
  subst hb
  exact St.perm (St.alloc h o) (prodL_snoc _ _).symm
theorem StL.drew {w0 w : World} {l : List SProp} (h : StL w0 w l) : StL w0 w.drew l := St.drew h
theorem StL.cell {w0 w : World} {l : List SProp} {i b : Nat} {c : Array Value} {e : TypeId} {fr : Nat × Nat} (h : StL w0 w l) (hi : l[i]? = some (blk b (.cells c e fr))) (j : Nat) {v : Value} (hv : c[j]? = some v) : w.cell? ⟨b, j, none⟩ = some v := by
  obtain ⟨F, hF⟩ := h.at_ hi
  exact hF.cell j hv
theorem StL.free {w0 w : World} {l : List SProp} {i b : Nat} {c : Array Value} {e : TypeId} (h : StL w0 w l) (hi : l[i]? = some (blk b (.cells c e (0, 0)))) (j : Nat) : w.frozen? ⟨b, j, none⟩ = false := by
  obtain ⟨F, hF⟩ := h.at_ hi
  exact hF.free j
theorem StL.set {w0 w : World} {l : List SProp} {i b : Nat} {c : Array Value} {e : TypeId} {fr : Nat × Nat} (h : StL w0 w l) (hi : l[i]? = some (blk b (.cells c e fr))) (j : Nat) (v : Value) :
    StL w0 (w.setCell ⟨b, j, none⟩ v) (l.set i (blk b (.cells (c.setIfInBounds j v) e fr))) :=
  h.upd hi fun F hF => hF.set j v
theorem StL.one {w0 w : World} {l : List SProp} {i b : Nat} {u : Value} {e : TypeId} (h : StL w0 w l) (hi : l[i]? = some (blk b (.cells #[u] e))) : Reads w 1 (.slice (some ⟨b, 0, none⟩) 1 1) 1 [u] := by
  refine ⟨rfl, .inr ⟨_, 1, rfl, Nat.le_refl _, by decide, fun j v hv => ?_⟩⟩
  cases j with
  | zero => cases hv; exact h.cell hi 0 rfl
  | succ j => simp at hv
theorem StL.reads {w0 w : World} {l : List SProp} {i : Nat} {e : TypeId} {size : Nat} {v : Value} {n : Nat} {xs : List Value} (h : StL w0 w l) (hi : l[i]? = some (own e size v n xs)) : Reads w size v n xs := by
  obtain ⟨F, hF⟩ := h.at_ hi
  exact hF.reads

/-- The slice that was appended to still reads as it did. -/
theorem run_append_keeps {P : Program} {w0 w : World} {F : SProp} {t e : TypeId} {size bytes : Nat} {z : Value} (T : ElemT P t e size bytes z) (ty : TypeId) {v : Value} {n : Nat} {xs : List Value}
    (h : St w0 w (own e size v n xs * F)) {x : Value} {m : Nat} {news : List Value} (hx : Reads w size x m news) (h1 : ∀ u ∈ news, u.oneCell' = true)
    (h63 : n + m ≤ maxLen) (hbytes : (n + m) * bytes ≤ 140737488355328) {v' : Value} {w' : World} (hr : (Builtin.append_ #[t, t] ty #[v, x]).run P w = .ok v' w') : Reads w' size v n xs := by
  obtain ⟨ht, ⟨i, hi, hz, rfl, rfl⟩, hzs, hsz⟩ := T
  have hv := h.reads
  obtain ⟨hxl, hx⟩ := hx
  rcases hx with ⟨rfl, rfl⟩ | ⟨ax, cap', rfl, hc1, hc2, hnews⟩
  · rw [run_append_owned_none w 0 t ty e i i.size ht hi v n xs h.own_row] at hr
    cases hr
    exact hv
  have hsmall : n + m ≤ 9223372036854775807 := by simp only [maxLen] at h63; omega
  obtain ⟨hl, a⟩ := h.own_split
  rcases a with ⟨rfl, rfl, hF⟩ | ⟨g, cap, cur, rfl, hnc, hcm, hcs, htake, hB⟩
  · exact ⟨hl, .inl ⟨rfl, rfl⟩⟩
  · by_cases hroom : n + m ≤ cap
    · have hfit : n * i.size + news.length ≤ cur.size := by rw [hxl, hcs, ← Nat.add_mul]; exact Nat.mul_le_mul_right _ hroom
      rw [run_append_room (P := P) w t ty e i ht hi g n cap cur hB.at_ ax m cap' news hxl hnews h1 hroom hfit] at hr
      cases hr
      refine ⟨hl, .inr ⟨_, cap, rfl, hnc, hcm, fun j u hu => ?_⟩⟩
      have hj : j < n * i.size := by rw [← hl]; exact (List.getElem?_eq_some_iff.1 hu).1
      rw [Addr.add_lit, Nat.zero_add, cell_of_row _ g j _ e (0, 0) (setRow_heap w g cur _ e _ hB.at_)]
      rw [← htake] at hu
      simp only [List.getElem?_toArray]
      rw [List.append_assoc, List.getElem?_append_left (by rw [List.length_take, Array.length_toList]; omega)]
      exact hu
    · have holds : ∀ j u, xs[j]? = some u → w.cell? ((⟨g, 0, none⟩ : Addr).add j) = some u := by
        intro j u hu
        rw [Addr.add_lit, Nat.zero_add, hB.cells]
        subst htake
        rw [List.getElem?_take] at hu
        split at hu
        · simpa using hu
        · cases hu
      rw [run_append_grow (P := P) w t ty e i z ht hi hz ⟨g, 0, none⟩ n cap xs hl holds ax m cap' news hxl hnews (by omega) (by omega) (growslice_fits (by omega) hbytes)] at hr
      cases hr
      refine ⟨hl, .inr ⟨_, cap, rfl, hnc, hcm, fun j u hu => ?_⟩⟩
      rw [World.cell?_alloc_lt _ _ _ (by rw [Addr.add_lit]; exact hB.lt), World.cell?_drew]
      exact holds j u hu

theorem step_append_L {P : Program} {w0 w : World} {l : List SProp} {t e : TypeId} {size bytes : Nat} {z : Value} (T : ElemT P t e size bytes z)
    {ops : Array Oper} {o : Oper} {a : Act} {K : Act → World → Prop} {Q : Exit → Act → World → Prop} {E : Prop} (hgd : o.guard = none) (s y : Operand)
    (ho : o.op = .call { callee := .builtin .append, args := #[s, y], argTypes := #[t, t] }) {v : Value} {n : Nat} {xs : List Value} (hs : a.eval s = v)
    (h : StL w0 w l) (i : Nat) (hi : l[i]? = some (own e size v n xs)) {x : Value} {m : Nat} {news : List Value} (hy : a.eval y = x) (hx : Reads w size x m news) (h1 : ∀ u ∈ news, u.oneCell' = true)
    (h63 : n + m ≤ maxLen) (hbytes : (n + m) * bytes ≤ 140737488355328)
    (hK : ∀ v' w', StL w0 w' (l.set i (own e size v' (n + m) (xs ++ news))) → Reads w' size v n xs → K (a.put o.dst v') w') : if Region.wanted o (yielded ops a.tmps) = true then Oper.wp P o a w K Q else E := by
  have hw : Region.wanted o (yielded ops a.tmps) = true := by simp [Region.wanted, hgd]
  rw [if_pos hw]
  obtain ⟨F, f1, f2⟩ := prodL_at hi
  obtain ⟨v', w', hr, h2, _⟩ := run_append_sep T o.type (St.perm h f1) hx h1 h63 hbytes
  unfold Oper.wp execOp
  simp only [ho, resolve, invoke, builtin, Sem.run_bind, Sem.run_pure, Result.andThen_ok, List.map_toArray, List.map_cons, List.map_nil, hs, hy, hr]
  exact hK v' w' (St.perm h2 (f2 _).symm) (run_append_keeps T o.type (St.perm h f1) hx h1 h63 hbytes hr)
#print axioms step_append_L
end Go.Mz
