/-
  Assertions on memory, more: a string's bytes are appended. Program-independent.
-/
import Derived.Test.YtknelobnbpboiaaGreatDoorSep
import Derived.Lib.AppendStr
namespace Go.Mz
open Go.RowKit Go.Lib
set_option linter.unusedVariables false
set_option linter.unusedSimpArgs false

theorem run_append_strsep {P : Program} {w0 w : World} {F : SProp} {t u e : TypeId} (T : ElemT P t e 1 1 (.int .u8 0)) (hu : P.underlying u = some .string) (ty : TypeId) {v : Value} {n : Nat} {xs : List Value}
    (h : St w0 w (own e 1 v n xs * F)) (s : ByteArray) (h63 : n + s.size ≤ maxLen) (hbytes : n + s.size ≤ 140737488355328) :
    ∃ v' w', (Builtin.append_ #[t, u] ty #[v, .string s]).run P w = .ok v' w' ∧ St w0 w' (own e 1 v' (n + s.size) (xs ++ strCells s) * F) := by
  obtain ⟨ht, ⟨i, hi, hz, hs1, hb1⟩, hzs, hsz⟩ := T
  have hsmall : n + s.size ≤ 9223372036854775807 := by simp only [maxLen] at h63; omega
  obtain ⟨hl, a⟩ := h.own_split
  have hxl : xs.length = n := by simpa using hl
  have hlen : (xs ++ strCells s).length = (n + s.size) * 1 := by rw [List.length_append, hxl, strCells_length, Nat.mul_one]
  have grown : St w0 w F → ∀ (old : Nat), old < n + s.size →
      St w0 (w.drew.alloc (.cells (xs.toArray ++ (strCells s).toArray ++ Builtin.zeroCells (Value.int .u8 0).cells (grownCap w (n + s.size) old e - (n + s.size))) e))
        (own e 1 (.slice (some ⟨w.heap.size, 0, none⟩) (n + s.size) (grownCap w (n + s.size) old e)) (n + s.size) (xs ++ strCells s) * F) := by
    intro hF old ho
    have hge := grownCap_ge w (n + s.size) old e
    have hcm : grownCap w (n + s.size) old e ≤ maxLen := grownCap_le_maxLen w (n + s.size) old e h63
    have ha := hF.drew.alloc (.cells (xs.toArray ++ (strCells s).toArray ++ Builtin.zeroCells (Value.int .u8 0).cells (grownCap w (n + s.size) old e - (n + s.size))) e)
    refine ha.own_blk hge hcm ?_ ?_
    · have hz1 : (Value.int IntKind.u8 0).cells.size = 1 := rfl
      simp only [Array.size_append, List.size_toArray, size_zeroCells, hz1, hxl, strCells_length]
      omega
    · simp only [Array.toList_append, List.append_assoc]
      rw [← List.append_assoc, ← hlen]
      exact List.take_left
  rcases a with ⟨rfl, rfl, hF⟩ | ⟨g, cap, cur, rfl, hnc, hcm, hcs, htake, hB⟩
  · have hx0 : xs = [] := List.eq_nil_of_length_eq_zero hxl
    subst hx0
    by_cases hm : s.size = 0
    · have hn : strCells s = [] := List.eq_nil_of_length_eq_zero (by rw [strCells_length]; exact hm)
      refine ⟨.slice none 0 0, w, ?_, by rw [hm, hn]; exact h⟩
      have hf := run_firstCells_string (P := P) w 1 s
      rw [hm] at hf
      simp [Builtin.append_, run_underlying ht, run_underlying hu, sizeOf, typeInfo, hi, hs1, Builtin.lenOf, hm, hf]
    · have hr := run_append_nil_string (P := P) w t u ty e i (.int .u8 0) ht hu hi hz s (by omega) (by omega) (by rw [hb1]; omega)
      have hgr := grown hF 0 (by omega)
      simp only [Nat.zero_add, List.nil_append, Array.empty_append] at hgr ⊢
      have e1 : (s.data.map fun b => Value.int .u8 b.toNat) = (strCells s).toArray := by
        apply Array.ext'
        simp [strCells]
      rw [e1] at hr
      exact ⟨_, _, hr, hgr⟩
  · by_cases hroom : n + s.size ≤ cap
    · have hcs' : cur.size = cap := by simpa using hcs
      have hr := run_append_room_string (P := P) w t u ty e i ht hu hi hs1 g n cap cur hB.at_ s hroom (by omega)
      refine ⟨_, _, hr, ?_⟩
      refine St.own_blk (cur := (cur.toList.take n ++ strCells s ++ cur.toList.drop (n + s.size)).toArray) (hB.upd rfl rfl rfl (by simp) ?_ ?_) hroom hcm ?_ ?_
      · exact setRow_heap w g cur _ e _ hB.at_
      · exact fun k _ hk => setRow_other w g k _ (fun e => hk (by simp [e]))
      · simp only [List.size_toArray, List.length_append, List.length_take, List.length_drop, Array.length_toList, strCells_length]
        omega
      · have ht' : cur.toList.take n = xs := by simpa using htake
        rw [ht', ← hlen]
        exact List.take_left
    · have holds : ∀ j u, xs[j]? = some u → w.cell? ((⟨g, 0, none⟩ : Addr).add j) = some u := by
        intro j u hu
        rw [Addr.add_lit, Nat.zero_add, hB.cells]
        have ht' : cur.toList.take n = xs := by simpa using htake
        subst ht'
        rw [List.getElem?_take] at hu
        split at hu
        · simpa using hu
        · cases hu
      have hr := run_append_grow_string (P := P) w t u ty e i (.int .u8 0) ht hu hi hz ⟨g, 0, none⟩ n cap xs (by rw [hs1]; simpa using hxl) holds s (by omega) (by omega) (by rw [hb1]; exact growslice_fits (by omega) (by omega))
      exact ⟨_, _, hr, grown hB.right cap (by omega)⟩

theorem wpList_append_strsep {P : Program} {w0 w : World} {F : SProp} {t u e : TypeId} (T : ElemT P t e 1 1 (.int .u8 0)) (hu : P.underlying u = some .string)
    {ops : Array Oper} {rest : List Oper} {o : Oper} {a : Act} {Q : Exit → Act → World → Prop} (hgd : o.guard = none) (s y : Operand)
    (ho : o.op = .call { callee := .builtin .append, args := #[s, y], argTypes := #[t, u] }) {v : Value} {n : Nat} {xs : List Value} (hs : a.eval s = v)
    (h : St w0 w (own e 1 v n xs * F)) {sb : ByteArray} (hy : a.eval y = .string sb) (h63 : n + sb.size ≤ maxLen) (hbytes : n + sb.size ≤ 140737488355328)
    (hK : ∀ v' w', St w0 w' (own e 1 v' (n + sb.size) (xs ++ strCells sb) * F) → wpList P ops Q rest (a.put o.dst v') w') : wpList P ops Q (o :: rest) a w := by
  refine wpList_plain hgd fun K hk => ?_
  obtain ⟨v', w', hr, h2⟩ := run_append_strsep T hu o.type h sb h63 hbytes
  unfold Oper.wp execOp
  simp only [ho, resolve, invoke, builtin, Sem.run_bind, Sem.run_pure, Result.andThen_ok, List.map_toArray, List.map_cons, List.map_nil, hs, hy, hr]
  exact hk _ _ (hK v' w' h2)
#print axioms wpList_append_strsep
end Go.Mz
