/-
  Layer 10 (deflate): how often symbols come; plain Lean (package deflate, own).
-/
import Derived.Test.YtddifndfppilkaaGreatLzM
namespace Go.Proofs.YtddifndfppilkaaGreat
open Go.RowKit Go.Mz
set_option linter.unusedVariables false
set_option linter.unusedSimpArgs false
set_option maxRecDepth 10000

def okS' (k : TokD) : Prop := k.len = 0 ∨ (3 ≤ k.len ∧ k.len ≤ 258 ∧ 1 ≤ k.dist ∧ k.dist ≤ 32768)
theorem okS_tells {b : List UInt8} : ∀ {l : List TokD} {i j : Nat}, TellsTo b i l j → ∀ k ∈ l, okS' k := by
  intro l
  induction l with
  | nil => intro i j _ k hk; cases hk
  | cons x l ih =>
    rintro i j ⟨m, h1, h2⟩ k hk
    rcases List.mem_cons.1 hk with rfl | hk
    · rcases h1.ok with h | ⟨a, b, c, d, e⟩
      · exact .inl h
      · exact .inr ⟨a, b, c, e⟩
    · exact ih h2 k hk

def litP (k : TokD) : Nat := if k.len = 0 then k.lit.toNat else 257 + plF false k.len.toNat
def upAt (l : List Nat) (p : Nat) : List Nat := l.set p (l.getD p 0 + 1)
def upD (a : List Nat) (k : TokD) : List Nat := if k.len = 0 then a else upAt a (plF true k.dist.toNat)
def lit0 : List Nat := (List.replicate 286 0).set 256 1
def dist0 : List Nat := List.replicate 30 0
def litN (T : List TokD) : List Nat := T.foldl (fun a k => upAt a (litP k)) lit0
def distN (T : List TokD) : List Nat := T.foldl upD dist0
/-- With a second word where no token comes. -/
def litC (T : List TokD) : List Nat := if T.length = 0 then (litN T).set 0 1 else litN T

theorem length_upAt (l : List Nat) (p : Nat) : (upAt l p).length = l.length := by simp [upAt]
theorem length_upD (l : List Nat) (k : TokD) : (upD l k).length = l.length := by unfold upD; split <;> simp [upAt]
theorem upAt_getD (l : List Nat) (p i : Nat) (h : p < l.length) : (upAt l p).getD i 0 = l.getD i 0 + if i = p then 1 else 0 := by
  unfold upAt
  rw [List.getD_eq_getElem?_getD, List.getElem?_set]
  by_cases e : p = i
  · subst e; rw [if_pos rfl, if_pos h, if_pos rfl]; rfl
  · rw [if_neg e, if_neg (fun h => e h.symm), ← List.getD_eq_getElem?_getD]; rfl
theorem litN_snoc (T : List TokD) (k : TokD) : litN (T ++ [k]) = upAt (litN T) (litP k) := by simp [litN, List.foldl_append]
theorem distN_snoc (T : List TokD) (k : TokD) : distN (T ++ [k]) = upD (distN T) k := by simp [distN, List.foldl_append]
theorem length_litN : ∀ T, (litN T).length = 286 := by
  have key : ∀ (T : List TokD) (a : List Nat), (T.foldl (fun a k => upAt a (litP k)) a).length = a.length := by
    intro T
    induction T with
    | nil => intro a; rfl
    | cons k T ih => intro a; rw [List.foldl_cons, ih, length_upAt]
  intro T; rw [litN, key, lit0, List.length_set, List.length_replicate]
theorem length_distN : ∀ T, (distN T).length = 30 := by
  have key : ∀ (T : List TokD) (a : List Nat), (T.foldl upD a).length = a.length := by
    intro T
    induction T with
    | nil => intro a; rfl
    | cons k T ih => intro a; rw [List.foldl_cons, ih, length_upD]
  intro T; rw [distN, key]; simp [dist0]
theorem litP_lt {k : TokD} (h : okS' k) : litP k < 286 ∧ litP k ≠ 256 := by
  unfold litP
  split
  · have : k.lit.toNat < 256 := UInt8.toNat_lt _
    omega
  · obtain ⟨h1, h2, _⟩ := h.resolve_left (by assumption)
    have := (plF_lens (n := k.len.toNat) (by omega) (by omega)).1
    omega
theorem distP_lt {k : TokD} (h : okS' k) (h0 : k.len ≠ 0) : plF true k.dist.toNat < 30 := by
  obtain ⟨h1, h2, h3, h4⟩ := h.resolve_left h0
  have := (plF_dists (n := k.dist.toNat) (by omega) (by omega)).1
  omega
theorem lit0_getD (i : Nat) : lit0.getD i 0 = if i = 256 then 1 else 0 := by
  unfold lit0
  rw [List.getD_eq_getElem?_getD, List.getElem?_set]
  by_cases e : i = 256
  · subst e; rw [if_pos rfl, if_pos (by rw [List.length_replicate]; omega), if_pos rfl]; exact Option.getD_some
  · rw [if_neg (fun h => e h.symm), if_neg e, List.getElem?_replicate]
    split <;> rfl
theorem dist0_getD (i : Nat) : dist0.getD i 0 = 0 := by
  unfold dist0
  rw [List.getD_eq_getElem?_getD, List.getElem?_replicate]
  split <;> rfl
/-- What the counts are. -/
theorem snoc_ind {α : Type} {P : List α → Prop} (h0 : P []) (h1 : ∀ l a, P l → P (l ++ [a])) : ∀ l, P l := by
  have key : ∀ l : List α, P l.reverse := by
    intro l
    induction l with
    | nil => exact h0
    | cons a l ih => rw [List.reverse_cons]; exact h1 _ _ ih
  intro l
  have := key l.reverse
  rwa [List.reverse_reverse] at this
theorem litN_at : ∀ (T : List TokD), (∀ k ∈ T, okS' k) → ∀ i, (litN T).getD i 0 = (if i = 256 then 1 else 0) + (T.filter fun k => decide (litP k = i)).length := by
  refine snoc_ind ?_ fun T k ih => ?_
  · intro _ i; show lit0.getD i 0 = _; rw [lit0_getD]; rfl
  · intro hok i
    have hk := (litP_lt (hok k (by simp))).1
    rw [litN_snoc, upAt_getD _ _ _ (by rw [length_litN]; exact hk), ih (fun x hx => hok x (by simp [hx])), List.filter_append, List.length_append, Nat.add_assoc]
    congr 2
    by_cases e : litP k = i
    · rw [if_pos e.symm, List.filter_cons, if_pos (by simpa using e)]; rfl
    · rw [if_neg (fun h => e h.symm), List.filter_cons, if_neg (by simpa using e)]; rfl
theorem distN_at : ∀ (T : List TokD), (∀ k ∈ T, okS' k) → ∀ i, (distN T).getD i 0 = (T.filter fun k => decide (k.len ≠ 0 ∧ plF true k.dist.toNat = i)).length := by
  refine snoc_ind ?_ fun T k ih => ?_
  · intro _ i; show dist0.getD i 0 = _; rw [dist0_getD]; rfl
  · intro hok i
    rw [distN_snoc, List.filter_append, List.length_append, ← ih (fun x hx => hok x (by simp [hx]))]
    unfold upD
    by_cases h0 : k.len = 0
    · rw [if_pos h0, List.filter_cons, if_neg (by simp [h0])]; rfl
    · rw [if_neg h0, upAt_getD _ _ _ (by rw [length_distN]; exact distP_lt (hok k (by simp)) h0)]
      congr 1
      by_cases e : plF true k.dist.toNat = i
      · rw [if_pos e.symm, List.filter_cons, if_pos (by simp [h0, e])]; rfl
      · rw [if_neg (fun h => e h.symm), List.filter_cons, if_neg (by simp [e])]; rfl
theorem getD_le_of {l : List Nat} {m : Nat} (h : ∀ i, l.getD i 0 ≤ m) : ∀ n ∈ l, n ≤ m := by
  intro n hn
  obtain ⟨i, hi, rfl⟩ := List.mem_iff_getElem.1 hn
  have := h i
  rw [List.getD_eq_getElem?_getD, List.getElem?_eq_getElem hi] at this
  exact this
theorem litN_le {T : List TokD} (hok : ∀ k ∈ T, okS' k) : ∀ n ∈ litN T, n ≤ T.length + 1 := getD_le_of fun i => by
  rw [litN_at T hok]
  have := List.length_filter_le (fun k => decide (litP k = i)) T
  split <;> omega
theorem distN_le {T : List TokD} (hok : ∀ k ∈ T, okS' k) : ∀ n ∈ distN T, n ≤ T.length := getD_le_of fun i => by
  rw [distN_at T hok]
  exact List.length_filter_le _ T
theorem length_litC (T : List TokD) : (litC T).length = 286 := by unfold litC; split <;> simp [length_litN]
theorem litC_le {T : List TokD} (hok : ∀ k ∈ T, okS' k) : ∀ n ∈ litC T, n ≤ T.length + 1 := by
  unfold litC
  split
  · intro n hn
    rcases List.mem_or_eq_of_mem_set hn with h | rfl
    · exact litN_le hok n h
    · omega
  · exact litN_le hok
theorem comes_le (o : List Nat) : comes o ≤ o.length := by
  rw [comes, sing, List.length_map]
  have := List.length_filter_le (fun i => decide (0 < o.getD i 0)) (List.range o.length)
  rwa [List.length_range] at this
theorem comes_two {o : List Nat} {i j : Nat} (hi : 0 < o.getD i 0) (hj : 0 < o.getD j 0) (h : i ≠ j) : 2 ≤ comes o := by
  have lt : ∀ i, 0 < o.getD i 0 → i < o.length := fun i hi => by
    rcases Nat.lt_or_ge i o.length with h | h
    · exact h
    · rw [List.getD_eq_getElem?_getD, List.getElem?_eq_none h] at hi; cases hi
  rw [comes, sing, List.length_map]
  have h1 : i ∈ (List.range o.length).filter fun i => decide (0 < o.getD i 0) := List.mem_filter.2 ⟨List.mem_range.2 (lt _ hi), by simpa using hi⟩
  have h2 : j ∈ (List.range o.length).filter fun i => decide (0 < o.getD i 0) := List.mem_filter.2 ⟨List.mem_range.2 (lt _ hj), by simpa using hj⟩
  generalize (List.range o.length).filter (fun i => decide (0 < o.getD i 0)) = L at *
  match L, h1, h2 with
  | [x], h1, h2 => exact absurd ((List.mem_singleton.1 h1).trans (List.mem_singleton.1 h2).symm) h
  | x :: y :: L, _, _ => simp
theorem usedL_comes {o l : List Nat} {most : Nat} (h : LimOk o most l) : usedL l = comes o := by
  rw [usedL, comes, sing, List.length_map]
  have e : ∀ m, m ≤ l.length → ((l.take m).filter fun n => decide (0 < n)).length = ((List.range m).filter fun i => decide (0 < o.getD i 0)).length := by
    intro m
    induction m with
    | zero => intro _; rfl
    | succ m ih =>
      intro hm
      rw [List.take_succ_eq_append_getElem (by omega), List.filter_append, List.range_succ, List.filter_append, List.length_append, List.length_append, ih (by omega)]
      congr 1
      have h1 := h.pos m (by rw [← h.len]; omega)
      rw [List.getD_eq_getElem?_getD, List.getElem?_eq_getElem (by omega : m < l.length)] at h1
      by_cases hp : 0 < o.getD m 0
      · rw [List.filter_cons, if_pos (by simpa using h1.2 hp), List.filter_cons, if_pos (by simpa using hp)]; rfl
      · rw [List.filter_cons, if_neg (fun hq => hp (h1.1 (by simpa using hq))), List.filter_cons, if_neg (by simpa using hp)]; rfl
  have := e l.length (Nat.le_refl _)
  rwa [List.take_length, h.len] at this
theorem lone_ok {l : List Nat} (h1 : ∀ n ∈ l, n ≤ 1) (hu : usedL l ≤ 1) : OkC l ∧ longL l ≤ 1 := by
  refine ⟨?_, ?_⟩
  · have hs : ∀ n, krS n l ≤ 2 ^ (n - 1) * usedL l := by
      intro n
      clear hu
      induction l with
      | nil => simp [krS]
      | cons x l ih =>
        have := ih fun n hn => h1 n (by simp [hn])
        have hx := h1 x (by simp)
        rw [krS_cons, usedL, List.filter_cons]
        by_cases h0 : 0 < x
        · rw [if_pos (by simpa using h0), List.length_cons, Nat.mul_succ, Nat.add_comm]
          refine Nat.add_le_add this ?_
          obtain rfl : x = 1 := by omega
          unfold krT
          split
          · exact Nat.le_refl _
          · exact Nat.zero_le _
        · rw [if_neg (by simpa using h0)]
          have e : krT n x = 0 := by unfold krT; rw [if_neg (by omega)]
          rw [e, Nat.zero_add]; exact this
    intro n hn
    have e : (codeC l n + cntC l n) * 2 = krS (n + 1) l := by rw [codeC_kr, krS_step]
    have := hs (n + 1)
    have h2 : 2 ^ n * usedL l ≤ 2 ^ n * 1 := Nat.mul_le_mul_left _ hu
    rw [Nat.add_sub_cancel] at this
    omega
  · have key : ∀ (l : List Nat) (a : Nat), a ≤ 1 → (∀ n ∈ l, n ≤ 1) → l.foldl max a ≤ 1 := by
      intro l
      induction l with
      | nil => intro a ha _; exact ha
      | cons x l ih => intro a ha h; exact ih _ (by have := h x (by simp); omega) fun n hn => h n (by simp [hn])
    exact key l 0 (by omega) h1
/-- The counts' lengths serve as the words of a block of its own. -/
theorem own_ok {T : List TokD} (hok : ∀ k ∈ T, okS' k) {la lb : List Nat} (ha : LimOk (litC T) 15 la) (hb : LimOk (distN T) 15 lb) : OwnOk la lb ∧ ∀ k ∈ T, usedW (wordsC la) (wordsC lb) k := by
  have h256 : 0 < (litN T).getD 256 0 := by rw [litN_at T hok, if_pos rfl]; omega
  have h256c : 0 < (litC T).getD 256 0 := by
    unfold litC
    split
    · rw [List.getD_eq_getElem?_getD, List.getElem?_set_ne (by omega), ← List.getD_eq_getElem?_getD]; exact h256
    · exact h256
  have two : 2 ≤ comes (litC T) := by
    rcases Nat.eq_zero_or_pos T.length with h | h
    · refine comes_two (i := 0) (j := 256) ?_ h256c (by omega)
      unfold litC
      rw [if_pos h, List.getD_eq_getElem?_getD, List.getElem?_set_self (by rw [length_litN]; omega)]; exact Nat.one_pos
    · obtain ⟨k, R, rfl⟩ : ∃ k R, T = k :: R := by
        cases T with
        | nil => simp at h
        | cons k R => exact ⟨k, R, rfl⟩
      obtain ⟨p1, p2⟩ := litP_lt (hok k (by simp))
      refine comes_two (i := litP k) (j := 256) ?_ h256c p2
      unfold litC
      rw [if_neg (by simp), litN_at _ hok, if_neg p2, List.filter_cons, if_pos (by simp)]
      simp
  obtain ⟨fa, oa⟩ := kraft_full (ha.full two)
  have hla : la.length = 286 := by rw [ha.len, length_litC]
  have hlb : lb.length = 30 := by rw [hb.len, length_distN]
  have hB : OkC lb ∧ (fullC lb = true ∨ (usedL lb ≤ 1 ∧ longL lb ≤ 1)) := by
    by_cases h2 : 2 ≤ comes (distN T)
    · obtain ⟨f, o⟩ := kraft_full (hb.full h2); exact ⟨o, .inl f⟩
    · have hu : usedL lb ≤ 1 := by rw [usedL_comes hb]; omega
      obtain ⟨o, l1⟩ := lone_ok (hb.one (by omega)) hu
      exact ⟨o, .inr ⟨hu, l1⟩⟩
  refine ⟨⟨hla, hlb, ha.le, hb.le, fa, oa, hB.1, hB.2, ?_⟩, fun k hk => ?_⟩
  · exact (ha.pos 256 (by rw [length_litC]; omega)).2 h256c
  · obtain ⟨p1, p2⟩ := litP_lt (hok k hk)
    have hT0 : T.length ≠ 0 := fun h => by rw [List.eq_nil_of_length_eq_zero h] at hk; cases hk
    have hpos : 0 < la.getD (litP k) 0 := by
      refine (ha.pos _ (by rw [length_litC]; exact p1)).2 ?_
      unfold litC
      rw [if_neg hT0, litN_at T hok]
      have : 0 < (T.filter fun x => decide (litP x = litP k)).length := List.length_pos_of_mem (List.mem_filter.2 ⟨hk, by simp⟩)
      omega
    have hw := word_there (by rw [hla]; exact p1) hpos
    unfold usedW
    by_cases h0 : k.len = 0
    · rw [if_pos h0]; unfold litP at hw; rw [if_pos h0] at hw; exact hw
    · rw [if_neg h0]
      unfold litP at hw; rw [if_neg h0] at hw
      refine ⟨hw, ?_⟩
      have q := distP_lt (hok k hk) h0
      refine word_there (by rw [hlb]; exact q) ((hb.pos _ (by rw [length_distN]; exact q)).2 ?_)
      rw [distN_at T hok]
      exact List.length_pos_of_mem (List.mem_filter.2 ⟨hk, by simp [h0]⟩)
end Go.Proofs.YtddifndfppilkaaGreat
