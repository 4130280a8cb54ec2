/-
  Maps whose keys are texts, each as one piece of memory. Program-independent.
-/
import Derived.Test.YtknelobnbpboiaaGreatDoorPhG
import Derived.WideMake
namespace Go.Mz
open Go.RowKit
set_option linter.unusedVariables false
set_option linter.unusedSimpArgs false

def putK (M : ByteArray → Option Value) (s : ByteArray) (v : Value) : ByteArray → Option Value := fun k => if k = s then some v else M k
theorem beqB (a b : ByteArray) : (a == b) = decide (a = b) := by
  by_cases h : a = b
  · rw [decide_eq_true h]; exact (MapKept.bytes_beq a b).2 h
  · rw [decide_eq_false h]
    exact Bool.eq_false_iff.2 fun e => h ((MapKept.bytes_beq a b).1 e)
theorem findNow_snoc {s k : ByteArray} {v : Value} {c0 : Nat} : ∀ (es : List MapEntry) (i : Nat) (r : Option (Nat × Value)), Instr.findNow .string (.string s) es i = some r →
    Instr.findNow .string (.string s) (es ++ [{ key := .string k, val := v, born := c0 }]) i = some (match r with | none => if s = k then some (i + es.length, v) else none | some x => some x)
  | [], i, r, h => by
    obtain rfl : r = none := by simpa [Instr.findNow] using h.symm
    by_cases e : s = k
    · simp [Instr.findNow, Instr.sameNow, beqB, e]
    · simp [Instr.findNow, Instr.sameNow, beqB, e]
  | x :: es, i, r, h => by
    rw [List.cons_append]
    simp only [Instr.findNow] at h ⊢
    cases hs : Instr.sameNow .string (.string s) x.key with
    | none => rw [hs] at h; cases h
    | some c =>
      rw [hs] at h
      cases c with
      | true => cases h; rfl
      | false =>
        have := findNow_snoc (k := k) (v := v) (c0 := c0) es (i + 1) r h
        simp only [this, List.length_cons]
        cases r
        · simp only [Nat.add_assoc, Nat.add_comm 1]
        · rfl

structure StrMap (es : Array MapEntry) (M : ByteArray → Option Value) : Prop where
  look : ∀ s i, ∃ r, Instr.findNow .string (.string s) es.toList i = some r ∧ r.map (·.2) = M s
theorem StrMap.nil : StrMap #[] (fun _ => none) := ⟨fun s i => ⟨none, rfl, rfl⟩⟩
theorem StrMap.push {es : Array MapEntry} {M : ByteArray → Option Value} (h : StrMap es M) {s : ByteArray} (hM : M s = none) (v : Value) (c : Nat) : StrMap (es.push { key := .string s, val := v, born := c }) (putK M s v) := by
  refine ⟨fun k i => ?_⟩
  obtain ⟨r, h1, h2⟩ := h.look k i
  rw [Array.toList_push]
  refine ⟨_, findNow_snoc es.toList i r h1, ?_⟩
  unfold putK
  cases r with
  | none =>
    by_cases e : k = s
    · simp [e]
    · simp [e] at h2 ⊢; exact h2
  | some x =>
    by_cases e : k = s
    · subst e; rw [hM] at h2; cases h2
    · simp [e] at h2 ⊢; exact h2

def mapK (m : Nat) (M : ByteArray → Option Value) : SProp := sEx fun x : Array MapEntry × Nat => lift (StrMap x.1 M) * blk m (.map x.1 x.2)
theorem mapK_open {w0 w : World} {m : Nat} {M : ByteArray → Option Value} {F : SProp} (h : St w0 w (mapK m M * F)) : ∃ es c, StrMap es M ∧ St w0 w (blk m (.map es c) * F) := by
  obtain ⟨⟨es, c⟩, h⟩ := h.ex_l
  obtain ⟨h1, h⟩ := (h.perm (star_assoc _ _ _)).pure_l
  exact ⟨es, c, h1, h⟩
theorem mapK_shut {w0 w : World} {m c : Nat} {es : Array MapEntry} {M : ByteArray → Option Value} {F : SProp} (h1 : StrMap es M) (h : St w0 w (blk m (.map es c) * F)) : St w0 w (mapK m M * F) :=
  St.mk_ex_l (es, c) ((St.mk_pure_l h1 h).perm (star_assoc _ _ _).symm)
section
variable {P : Program} {w0 w : World} {F : SProp} {t k e : TypeId} {m : Nat} {M : ByteArray → Option Value} {s : ByteArray} {v z : Value}
theorem mapK_new (h : St w0 w F) : St w0 (w.alloc (.map #[] 0)) (mapK w.heap.size (fun _ => none) * F) := mapK_shut StrMap.nil (h.alloc _)
theorem run_putK (ht : P.underlying t = some (.map k e)) (hk : P.underlying k = some .string) (h : St w0 w (mapK m M * F)) (hM : M s = none) :
    ∃ w', (Instr.mapUpdate t (.map (some m)) (.string s) v).run P w = .ok () w' ∧ St w0 w' (mapK m (putK M s v) * F) := by
  obtain ⟨es, c, h1, h2⟩ := mapK_open h
  have hb := h2.at_
  obtain ⟨r, hf, hr⟩ := h1.look s 0
  rw [hM] at hr
  obtain rfl : r = none := by cases r <;> simp_all
  have hc : (Instr.checkKey false 10000 k (.string s)).run P w = .ok () w := MapKept.run_checkKey (k := .string s) hk (by simp [MapKept.IsKey]) false 9999
  refine ⟨{ w with heap := w.heap.setIfInBounds m (.map (es.push { key := .string s, val := v, born := c }) (c + 1)) }, ?_, ?_⟩
  · simp [Instr.mapUpdate, run_underlying ht, MapKept.run_getObj_map hb, hc, MapKept.run_findKey hk hf, MapKept.run_setObj_map _ hb, Result.andThen]
  · exact mapK_shut (h1.push hM v c) (h2.upd (w' := { w with heap := w.heap.setIfInBounds m (.map (es.push { key := .string s, val := v, born := c }) (c + 1)) }) rfl rfl rfl (by simp) (MapKept.heap_set hb).1 (fun j _ hne => (MapKept.heap_set hb).2 j hne))
theorem run_getK (ht : P.underlying t = some (.map k e)) (hk : P.underlying k = some .string) (h : St w0 w (mapK m M * F)) (hz : (zeroValue e).run P w = .ok z w) (s : ByteArray) :
    (Instr.lookup t (.map (some m)) (.string s) true).run P w = .ok (.tuple #[(M s).getD z, .bool (M s).isSome]) w := by
  obtain ⟨es, c, h1, h2⟩ := mapK_open h
  have hb := h2.at_
  obtain ⟨r, hf, hr⟩ := h1.look s 0
  have hc : (Instr.checkKey es.isEmpty 10000 k (.string s)).run P w = .ok () w := MapKept.run_checkKey (k := .string s) hk (by simp [MapKept.IsKey]) _ 9999
  rw [← hr]
  cases r with
  | none => simp [Instr.lookup, run_underlying ht, MapKept.run_getObj_map hb, hc, MapKept.run_findKey hk hf, hz, Result.andThen]
  | some x => simp [Instr.lookup, run_underlying ht, MapKept.run_getObj_map hb, hc, MapKept.run_findKey hk hf, Result.andThen]
end
/-- What a list of operations has put in so far: operation, key, value. -/
def itM (its : List (Nat × ByteArray × Value)) (σ : Nat → Option Value) : ByteArray → Option Value := fun s => (its.find? fun t => (σ t.1).isSome && t.2.1 == s).map (·.2.2)
theorem itM_start (its : List (Nat × ByteArray × Value)) {σ : Nat → Option Value} (h : ∀ t ∈ its, σ t.1 = none) : itM its σ = fun _ => none := by
  funext s
  unfold itM
  rw [List.find?_eq_none.2]; · rfl
  intro t ht
  simp [h t ht]
theorem itM_at {its : List (Nat × ByteArray × Value)} {t u : Nat × ByteArray × Value} (hk : (its.map (·.2.1)).Nodup) (ht : t ∈ its) (hu : u ∈ its) (e : t.2.1 = u.2.1) : t = u := by
  induction its with
  | nil => cases ht
  | cons x l ih =>
    rw [List.map_cons, List.nodup_cons] at hk
    rcases List.mem_cons.1 ht with rfl | ht' <;> rcases List.mem_cons.1 hu with rfl | hu'
    · rfl
    · exact (hk.1 (List.mem_map.2 ⟨u, hu', e.symm⟩)).elim
    · exact (hk.1 (List.mem_map.2 ⟨t, ht', e⟩)).elim
    · exact ih hk.2 ht' hu'
theorem itM_none {its : List (Nat × ByteArray × Value)} {σ : Nat → Option Value} {i : Nat} {s : ByteArray} {v : Value} (hm : (i, s, v) ∈ its) (hk : (its.map (·.2.1)).Nodup) (hσ : σ i = none) : itM its σ s = none := by
  unfold itM
  rw [List.find?_eq_none.2]; · rfl
  intro t ht
  by_cases e : t.2.1 = s
  · obtain rfl := itM_at hk ht hm e
    simp [hσ]
  · simp [beqB, e]
theorem itM_put {its : List (Nat × ByteArray × Value)} {σ : Nat → Option Value} {i : Nat} {s : ByteArray} {v u : Value} (hm : (i, s, v) ∈ its) (hk : (its.map (·.2.1)).Nodup) (hi : (its.map (·.1)).Nodup) : putK (itM its σ) s v = itM its (setO σ i u) := by
  funext k
  unfold putK itM
  by_cases e : k = s
  · subst e
    rw [if_pos rfl]
    cases hf : its.find? (fun t => (setO σ i u t.1).isSome && t.2.1 == k) with
    | none =>
      have := List.find?_eq_none.1 hf _ hm
      simp [setO, beqB] at this
    | some x =>
      have h1 := List.find?_some hf
      have h2 := List.mem_of_find?_eq_some hf
      simp only [Bool.and_eq_true, beqB, decide_eq_true_eq] at h1
      obtain rfl := itM_at hk h2 hm h1.2
      rfl
  · rw [if_neg e]
    have key : ∀ l : List (Nat × ByteArray × Value), (∀ t ∈ l, t ∈ its) → (l.find? fun t => (σ t.1).isSome && t.2.1 == k) = l.find? fun t => (setO σ i u t.1).isSome && t.2.1 == k := by
      intro l
      induction l with
      | nil => intro _; rfl
      | cons x l ih =>
        intro hl
        have hx : ((σ x.1).isSome && x.2.1 == k) = ((setO σ i u x.1).isSome && x.2.1 == k) := by
          by_cases ei : x.1 = i
          · have : x.2.1 ≠ k := fun e' => by
              have hxm := hl x List.mem_cons_self
              -- the same operation, so the same key
              have h1 : ∀ (l : List (Nat × ByteArray × Value)), (l.map (·.1)).Nodup → ∀ a ∈ l, ∀ b ∈ l, a.1 = b.1 → a = b := by
                intro l
                induction l with
                | nil => intro _ a ha; cases ha
                | cons y l ih =>
                  intro hn a ha b hb eab
                  rw [List.map_cons, List.nodup_cons] at hn
                  rcases List.mem_cons.1 ha with rfl | ha' <;> rcases List.mem_cons.1 hb with rfl | hb'
                  · rfl
                  · exact (hn.1 (List.mem_map.2 ⟨b, hb', eab.symm⟩)).elim
                  · exact (hn.1 (List.mem_map.2 ⟨a, ha', eab⟩)).elim
                  · exact ih hn.2 a ha' b hb' eab
              have := h1 its hi x hxm _ hm ei
              subst this
              exact e e'.symm
            simp [beqB, this]
          · simp [setO, ei]
        rw [List.find?_cons, List.find?_cons, hx, ih fun t ht => hl t (List.mem_cons_of_mem _ ht)]
    rw [key its fun _ h => h]
/-- All is in. -/
theorem itM_all {its : List (Nat × ByteArray × Value)} {σ : Nat → Option Value} (h : ∀ t ∈ its, (σ t.1).isSome = true) (s : ByteArray) : itM its σ s = (its.find? fun t => t.2.1 == s).map (·.2.2) := by
  unfold itM
  congr 1
  induction its with
  | nil => rfl
  | cons x l ih => rw [List.find?_cons, List.find?_cons, h x List.mem_cons_self, Bool.true_and, ih fun t ht => h t (List.mem_cons_of_mem _ ht)]
#print axioms itM_put
#print axioms run_getK
end Go.Mz
