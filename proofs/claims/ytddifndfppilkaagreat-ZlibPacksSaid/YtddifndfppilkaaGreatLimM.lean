/-
  Layer 7 (limit): words of bounded length by parcels; plain Lean.
  Layer 7 to 10: lengths for which Kraft's equality holds have full canonical words; plain Lean.
  Layer 7 (limit): what lengths come of how often things come; plain Lean.
-/
import Derived.Test.YtddifndfppilkaaGreatCanonM
import Derived.Test.YtddifndfppilkaaGreatInfM
namespace Go.Mz
/-- A parcel: its weight, and of which symbols it is. -/
abbrev Pcl := Nat × List Nat
def pairsF : List Pcl → List Pcl
  | x :: y :: r => (x.1 + y.1, x.2 ++ y.2) :: pairsF r
  | _ => []
/-- Two sorted rows as one; of the same weight those of the first one come first. -/
def mrg : List Pcl → List Pcl → List Pcl
  | [], b => b
  | a, [] => a
  | x :: a, y :: b => if x.1 ≤ y.1 then x :: mrg a (y :: b) else y :: mrg (x :: a) b
termination_by a b => a.length + b.length
def lv (S : List Pcl) : Nat → List Pcl
  | 0 => []
  | k + 1 => mrg S (pairsF (lv S k))
def Srt (l : List Pcl) : Prop := l.Pairwise (fun x y => x.1 ≤ y.1)

theorem mrg_nil (a : List Pcl) : mrg a [] = a := by cases a <;> simp [mrg]
theorem mrg_length : ∀ (a b : List Pcl), (mrg a b).length = a.length + b.length
  | [], b => by simp [mrg]
  | x :: a, [] => by simp [mrg]
  | x :: a, y :: b => by
    rw [mrg]
    split
    · rw [List.length_cons, mrg_length a (y :: b)]; simp; omega
    · rw [List.length_cons, mrg_length (x :: a) b]; simp; omega
termination_by a b => a.length + b.length
theorem mrg_mem : ∀ (a b : List Pcl) (z : Pcl), z ∈ mrg a b → z ∈ a ∨ z ∈ b
  | [], b, z, h => by simp [mrg] at h; exact .inr h
  | x :: a, [], z, h => by simp [mrg] at h; exact .inl (by simpa using h)
  | x :: a, y :: b, z, h => by
    rw [mrg] at h
    split at h
    · rcases List.mem_cons.1 h with rfl | h
      · exact .inl (by simp)
      · rcases mrg_mem a (y :: b) z h with h | h
        · exact .inl (by simp [h])
        · exact .inr h
    · rcases List.mem_cons.1 h with rfl | h
      · exact .inr (by simp)
      · rcases mrg_mem (x :: a) b z h with h | h
        · exact .inl h
        · exact .inr (by simp [h])
termination_by a b => a.length + b.length
theorem mrg_srt : ∀ (a b : List Pcl), Srt a → Srt b → Srt (mrg a b)
  | [], b, _, hb => by simpa [mrg] using hb
  | x :: a, [], ha, _ => by rw [mrg_nil]; exact ha
  | x :: a, y :: b, ha, hb => by
    have ha2 := List.pairwise_cons.1 ha
    have hb2 := List.pairwise_cons.1 hb
    rw [mrg]
    split
    · rename_i hle
      refine List.pairwise_cons.2 ⟨fun z hz => ?_, mrg_srt a (y :: b) ha2.2 hb⟩
      rcases mrg_mem _ _ _ hz with h | h
      · exact ha2.1 z h
      · rcases List.mem_cons.1 h with rfl | h
        · exact hle
        · have := hb2.1 z h; omega
    · rename_i hle
      refine List.pairwise_cons.2 ⟨fun z hz => ?_, mrg_srt (x :: a) b ha hb2.2⟩
      rcases mrg_mem _ _ _ hz with h | h
      · rcases List.mem_cons.1 h with rfl | h
        · omega
        · have := ha2.1 z h; omega
      · exact hb2.1 z h
termination_by a b => a.length + b.length
theorem pairsF_length : ∀ l : List Pcl, (pairsF l).length = l.length / 2
  | [] => by simp [pairsF]
  | [x] => by simp [pairsF]
  | x :: y :: r => by rw [pairsF, List.length_cons, pairsF_length r]; simp; omega
theorem pairsF_mem_ge : ∀ (l : List Pcl) (b : Nat), (∀ z ∈ l, b ≤ z.1) → ∀ z ∈ pairsF l, b ≤ z.1
  | [], _, _, z, hz => by simp [pairsF] at hz
  | [x], _, _, z, hz => by simp [pairsF] at hz
  | x :: y :: r, b, h, z, hz => by
    rw [pairsF] at hz
    rcases List.mem_cons.1 hz with rfl | hz
    · have := h x (by simp); show b ≤ x.1 + y.1; omega
    · exact pairsF_mem_ge r b (fun w hw => h w (by simp [hw])) z hz
theorem pairsF_srt : ∀ l : List Pcl, Srt l → Srt (pairsF l)
  | [], _ => List.Pairwise.nil
  | [x], _ => List.Pairwise.nil
  | x :: y :: r, h => by
    have h1 := List.pairwise_cons.1 h
    have h2 := List.pairwise_cons.1 h1.2
    rw [pairsF]
    refine List.pairwise_cons.2 ⟨?_, pairsF_srt r h2.2⟩
    have key : ∀ (r : List Pcl), (∀ z ∈ r, x.1 ≤ z.1) → (∀ z ∈ r, y.1 ≤ z.1) → ∀ z ∈ pairsF r, x.1 + y.1 ≤ z.1 := by
      intro r
      induction r using pairsF.induct with
      | case1 u v r ih =>
        intro hx hy z hz
        rw [pairsF] at hz
        rcases List.mem_cons.1 hz with rfl | hz
        · have a := hx u (by simp); have b := hy v (by simp); show x.1 + y.1 ≤ u.1 + v.1; omega
        · exact ih (fun w hw => hx w (by simp [hw])) (fun w hw => hy w (by simp [hw])) z hz
      | case2 r hr =>
        intro _ _ z hz
        rw [pairsF] at hz
        · simp at hz
        · exact hr
    exact key r (fun z hz => h1.1 z (by simp [hz])) (fun z hz => h2.1 z hz)
theorem lv_srt (S : List Pcl) (h : Srt S) : ∀ k, Srt (lv S k)
  | 0 => List.Pairwise.nil
  | k + 1 => mrg_srt _ _ h (pairsF_srt _ (lv_srt S h k))

/-- The first ones of two rows as one are first ones of each; and who is no heavier than one of the second that is taken is taken. -/
theorem mrg_take : ∀ (a b : List Pcl) (m : Nat), Srt a → Srt b → m ≤ a.length + b.length → ∃ s q, s ≤ a.length ∧ q ≤ b.length ∧ s + q = m ∧ ((mrg a b).take m).Perm (a.take s ++ b.take q) ∧
    (0 < q → ∀ j u z, a[j]? = some u → b[q - 1]? = some z → u.1 ≤ z.1 → j < s)
  | [], b, m, _, _, hm => ⟨0, m, by simp, by simpa using hm, by omega, by simp [mrg], fun _ j u z h => by simp at h⟩
  | x :: a, [], m, _, _, hm => ⟨m, 0, by simpa using hm, by simp, by omega, by simp [mrg], fun h => by omega⟩
  | x :: a, y :: b, 0, _, _, _ => ⟨0, 0, by simp, by simp, by omega, by simp, fun h => by omega⟩
  | x :: a, y :: b, m + 1, ha, hb, hm => by
    have ha2 := List.pairwise_cons.1 ha
    have hb2 := List.pairwise_cons.1 hb
    rw [mrg]
    split
    · rename_i hle
      obtain ⟨s, q, h1, h2, h3, h4, h5⟩ := mrg_take a (y :: b) m ha2.2 hb (by simp at hm ⊢; omega)
      refine ⟨s + 1, q, by simp; omega, h2, by omega, ?_, fun hq j u z hu hz hle2 => ?_⟩
      · rw [List.take_succ_cons, List.take_succ_cons, List.cons_append]
        exact List.Perm.cons _ h4
      · cases j with
        | zero => omega
        | succ j => have := h5 hq j u z (by simpa using hu) hz hle2; omega
    · rename_i hle
      obtain ⟨s, q, h1, h2, h3, h4, h5⟩ := mrg_take (x :: a) b m ha hb2.2 (by simp at hm ⊢; omega)
      refine ⟨s, q + 1, h1, by simp; omega, by omega, ?_, fun _ j u z hu hz hle2 => ?_⟩
      · rw [List.take_succ_cons, List.take_succ_cons]
        exact (List.Perm.cons _ h4).trans List.perm_middle.symm
      · rw [Nat.add_sub_cancel] at hz
        by_cases hq : 0 < q
        · refine h5 hq j u z hu ?_ hle2
          obtain ⟨r, rfl⟩ : ∃ r, q = r + 1 := ⟨q - 1, by omega⟩
          simpa using hz
        · obtain rfl : q = 0 := by omega
          simp at hz
          subst hz
          exfalso
          cases j with
          | zero => simp at hu; subst hu; omega
          | succ j =>
            have hm2 : u ∈ a := List.mem_of_getElem? (by simpa using hu)
            have := ha2.1 u hm2
            omega
termination_by a b => a.length + b.length

theorem pairsF_take : ∀ (l : List Pcl) (q : Nat), 2 * q ≤ l.length → ((pairsF l).take q).flatMap (·.2) = (l.take (2 * q)).flatMap (·.2)
  | l, 0, _ => by simp
  | [], q + 1, h => by simp at h
  | [x], q + 1, h => by simp at h; omega
  | x :: y :: r, q + 1, h => by
    rw [pairsF, List.take_succ_cons, show 2 * (q + 1) = 2 * q + 1 + 1 by omega, List.take_succ_cons, List.take_succ_cons]
    simp only [List.flatMap_cons]
    rw [pairsF_take r q (by simp at h; omega), List.append_assoc]
theorem pairsF_get : ∀ (l : List Pcl) (q : Nat) (z : Pcl), (pairsF l)[q]? = some z → ∃ u v, l[2 * q]? = some u ∧ l[2 * q + 1]? = some v ∧ z.1 = u.1 + v.1
  | [], q, z, h => by simp [pairsF] at h
  | [x], q, z, h => by simp [pairsF] at h
  | x :: y :: r, 0, z, h => by simp [pairsF] at h; subst h; exact ⟨x, y, by simp, by simp, rfl⟩
  | x :: y :: r, q + 1, z, h => by
    rw [pairsF, List.getElem?_cons_succ] at h
    obtain ⟨u, v, h1, h2, h3⟩ := pairsF_get r q z h
    exact ⟨u, v, by rw [show 2 * (q + 1) = 2 * q + 1 + 1 by omega]; simpa using h1, by rw [show 2 * (q + 1) + 1 = 2 * q + 1 + 1 + 1 by omega]; simpa using h2, h3⟩
/-- What the first m of row k are made of. -/
def cho (S : List Pcl) (k m : Nat) : List Nat := ((lv S k).take m).flatMap (·.2)
/-- Single symbols, by weight. -/
def Single (S : List Pcl) (id : Nat → Nat) : Prop := Srt S ∧ (∀ j u, S[j]? = some u → u.2 = [id j]) ∧ ∀ i j, i < S.length → j < S.length → id i = id j → i = j

theorem cho_step {S : List Pcl} (hS : Srt S) (k m : Nat) (hm : m ≤ (lv S (k + 1)).length) : ∃ s q, s ≤ S.length ∧ s + q = m ∧ 2 * q ≤ (lv S k).length ∧ (cho S (k + 1) m).Perm ((S.take s).flatMap (·.2) ++ cho S k (2 * q)) ∧
    (0 < q → ∀ j u v, S[j]? = some u → v ∈ (lv S k).take (2 * q) → u.1 ≤ v.1 → j < s) := by
  rw [lv, mrg_length] at hm
  obtain ⟨s, q, h1, h2, h3, h4, h5⟩ := mrg_take S (pairsF (lv S k)) m hS (pairsF_srt _ (lv_srt S hS k)) hm
  rw [pairsF_length] at h2
  have h2q : 2 * q ≤ (lv S k).length := by omega
  refine ⟨s, q, h1, h3, h2q, ?_, fun hq j u v hu hv hle => ?_⟩
  · rw [cho, lv]
    have := h4.flatMap_right (·.2)
    rw [List.flatMap_append, pairsF_take _ _ h2q] at this
    exact this
  · have hq1 : q - 1 < (pairsF (lv S k)).length := by rw [pairsF_length]; omega
    obtain ⟨a, b, ha, hb, hz⟩ := pairsF_get (lv S k) (q - 1) _ (List.getElem?_eq_getElem hq1)
    refine h5 hq j u _ hu (List.getElem?_eq_getElem hq1) ?_
    have hvb : v.1 ≤ b.1 := by
      obtain ⟨i, hi, rfl⟩ := List.getElem_of_mem hv
      rw [List.length_take] at hi
      rw [List.getElem_take]
      have e : 2 * (q - 1) + 1 = 2 * q - 1 := by omega
      rw [e] at hb
      obtain ⟨hb1, hb2⟩ := List.getElem?_eq_some_iff.1 hb
      rcases Nat.lt_or_ge i (2 * q - 1) with hlt | hge
      · have := List.pairwise_iff_getElem.1 (lv_srt S hS k) i (2 * q - 1) (by omega) hb1 hlt
        rw [hb2] at this; exact this
      · have : i = 2 * q - 1 := by omega
        subst this
        rw [← hb2]; exact Nat.le_refl _
    omega
theorem count_take {S : List Pcl} {id : Nat → Nat} (hS : Single S id) {j : Nat} (hj : j < S.length) : ∀ s, s ≤ S.length → ((S.take s).flatMap (·.2)).count (id j) = if j < s then 1 else 0 := by
  intro s
  induction s with
  | zero => intro _; simp
  | succ s ih =>
    intro hs
    have hs1 : s < S.length := by omega
    rw [List.take_succ_eq_append_getElem hs1, List.flatMap_append, List.count_append, ih (by omega)]
    have h2 := hS.2.1 s _ (List.getElem?_eq_getElem hs1)
    simp only [List.flatMap_cons, List.flatMap_nil, List.append_nil]
    rw [h2]
    by_cases h : j = s
    · subst h; simp
    · have hne : ¬ id s = id j := fun e => h (hS.2.2 j s hj hs1 e.symm)
      rw [List.count_cons, List.count_nil]
      simp only [beq_iff_eq, hne, if_false]
      by_cases h3 : j < s
      · rw [if_pos h3, if_pos (by omega)]
      · rw [if_neg h3, if_neg (by omega)]
theorem cho_mem {S : List Pcl} {id : Nat → Nat} (hS : Single S id) {j : Nat} (hj : j < S.length) : ∀ (k m : Nat), m ≤ (lv S k).length → 0 < (cho S k m).count (id j) → ∃ v ∈ (lv S k).take m, (S[j]'hj).1 ≤ v.1 := by
  intro k
  induction k with
  | zero => intro m _ h; simp [cho, lv] at h
  | succ k ih =>
    intro m hm h
    have hmem : id j ∈ cho S (k + 1) m := List.count_pos_iff.1 h
    rw [cho, List.mem_flatMap] at hmem
    obtain ⟨v, hv, hjv⟩ := hmem
    refine ⟨v, hv, ?_⟩
    have key : ∀ k v, v ∈ lv S k → id j ∈ v.2 → (S[j]'hj).1 ≤ v.1 := by
      intro k
      induction k with
      | zero => intro v hv; simp [lv] at hv
      | succ k ihk =>
        intro v hv hjv
        rw [lv] at hv
        rcases mrg_mem _ _ _ hv with h | h
        · obtain ⟨i, hi, rfl⟩ := List.getElem_of_mem h
          have h2 := hS.2.1 i _ (List.getElem?_eq_getElem hi)
          rw [h2] at hjv
          have e : id j = id i := by simpa using hjv
          have := hS.2.2 j i hj hi e
          subst this
          exact Nat.le_refl _
        · obtain ⟨i, hi, rfl⟩ := List.getElem_of_mem h
          have : ∀ (l : List Pcl) (z : Pcl), z ∈ pairsF l → id j ∈ z.2 → ∃ u ∈ l, id j ∈ u.2 ∧ u.1 ≤ z.1 := by
            intro l
            induction l using pairsF.induct with
            | case1 x y r ih2 =>
              intro z hz hjz
              rw [pairsF] at hz
              rcases List.mem_cons.1 hz with rfl | hz
              · rcases List.mem_append.1 hjz with h | h
                · exact ⟨x, by simp, h, by show x.1 ≤ x.1 + y.1; omega⟩
                · exact ⟨y, by simp, h, by show y.1 ≤ x.1 + y.1; omega⟩
              · obtain ⟨u, h1, h2, h3⟩ := ih2 z hz hjz
                exact ⟨u, by simp [h1], h2, h3⟩
            | case2 r hr =>
              intro z hz
              rw [pairsF] at hz
              · simp at hz
              · exact hr
          obtain ⟨u, h1, h2, h3⟩ := this _ _ (List.getElem_mem hi) hjv
          have := ihk u h1 h2
          omega
    exact key (k + 1) v (List.mem_of_mem_take hv) hjv

def cnt (S : List Pcl) (id : Nat → Nat) (k m j : Nat) : Nat := (cho S k m).count (id j)
/-- The counts one row further down: one less for those that are taken there, and none for the others. -/
theorem cnt_step {S : List Pcl} {id : Nat → Nat} (hS : Single S id) (k m : Nat) (hm : m ≤ (lv S (k + 1)).length) : ∃ s q, s ≤ S.length ∧ s + q = m ∧ 2 * q ≤ (lv S k).length ∧
    ∀ j, j < S.length → cnt S id (k + 1) m j = (if j < s then 1 else 0) + cnt S id k (2 * q) j ∧ (s ≤ j → cnt S id k (2 * q) j = 0) := by
  obtain ⟨s, q, h1, h2, h3, h4, h5⟩ := cho_step hS.1 k m hm
  refine ⟨s, q, h1, h2, h3, fun j hj => ⟨?_, fun hsj => ?_⟩⟩
  · rw [cnt, h4.count_eq, List.count_append, count_take hS hj s h1]; rfl
  · rcases Nat.eq_zero_or_pos (cnt S id k (2 * q) j) with h | h
    · exact h
    · exfalso
      obtain ⟨v, hv, hle⟩ := cho_mem hS hj k (2 * q) h3 h
      have hq : 0 < q := by
        rcases Nat.eq_zero_or_pos q with e | e
        · subst e; simp at hv
        · exact e
      have := h5 hq j _ v (List.getElem?_eq_getElem hj) hv hle
      omega
def sumR (n : Nat) (f : Nat → Nat) : Nat := ((List.range n).map f).sum
theorem sumR_succ (n : Nat) (f : Nat → Nat) : sumR (n + 1) f = sumR n f + f n := by simp [sumR, List.range_succ]
theorem sumR_congr {n : Nat} {f g : Nat → Nat} (h : ∀ j, j < n → f j = g j) : sumR n f = sumR n g := by
  induction n with
  | zero => rfl
  | succ n ih => rw [sumR_succ, sumR_succ, ih (fun j hj => h j (by omega)), h n (by omega)]
theorem sumR_add (n : Nat) (f g : Nat → Nat) : sumR n (fun j => f j + g j) = sumR n f + sumR n g := by
  induction n with
  | zero => rfl
  | succ n ih => rw [sumR_succ, sumR_succ, sumR_succ, ih]; omega
theorem sumR_ind (n s c : Nat) (h : s ≤ n) : sumR n (fun j => if j < s then c else 0) = s * c := by
  induction n with
  | zero => obtain rfl : s = 0 := by omega
            simp [sumR]
  | succ n ih =>
    rw [sumR_succ]
    by_cases hs : s ≤ n
    · rw [ih hs, if_neg (by omega)]; omega
    · obtain rfl : s = n + 1 := by omega
      rw [if_pos (by omega), sumR_congr (g := fun _ => c) (fun j hj => if_pos (by omega))]
      clear ih h hs
      have : ∀ n, sumR n (fun _ => c) = n * c := by
        intro n
        induction n with
        | zero => simp [sumR]
        | succ n ih => rw [sumR_succ, ih, Nat.succ_mul]
      rw [this, Nat.succ_mul]
/-- What the taken ones weigh. -/
theorem deficit {S : List Pcl} {id : Nat → Nat} (hS : Single S id) : ∀ (k m : Nat), m ≤ (lv S k).length → (∀ j, j < S.length → cnt S id k m j ≤ k) ∧ 2 * sumR S.length (fun j => 2 ^ k - 2 ^ (k - cnt S id k m j)) = 2 ^ k * m := by
  intro k
  induction k with
  | zero =>
    intro m hm
    have h0 : ∀ j, cnt S id 0 m j = 0 := fun j => by simp [cnt, cho, lv]
    simp [lv] at hm
    subst hm
    refine ⟨fun j _ => by rw [h0]; exact Nat.le_refl _, ?_⟩
    rw [sumR_congr (g := fun _ => 0) (fun j _ => by rw [h0, Nat.sub_zero, Nat.sub_self])]
    have : ∀ n, sumR n (fun _ => 0) = 0 := fun n => by
      induction n with
      | zero => rfl
      | succ n ih => rw [sumR_succ, ih]
    rw [this]
  | succ k ih =>
    intro m hm
    obtain ⟨s, q, h1, h2, h3, h4⟩ := cnt_step hS k m hm
    obtain ⟨i1, i2⟩ := ih (2 * q) h3
    refine ⟨fun j hj => ?_, ?_⟩
    · have := (h4 j hj).1; have := i1 j hj; split at * <;> omega
    · have e : sumR S.length (fun j => 2 ^ (k + 1) - 2 ^ (k + 1 - cnt S id (k + 1) m j)) = sumR S.length (fun j => (if j < s then 2 ^ k else 0) + (2 ^ k - 2 ^ (k - cnt S id k (2 * q) j))) := by
        refine sumR_congr fun j hj => ?_
        obtain ⟨c1, c2⟩ := h4 j hj
        have hk := i1 j hj
        by_cases hjs : j < s
        · rw [if_pos hjs] at c1 ⊢
          rw [c1, show k + 1 - (1 + cnt S id k (2 * q) j) = k - cnt S id k (2 * q) j by omega, Nat.pow_succ]
          have : 2 ^ (k - cnt S id k (2 * q) j) ≤ 2 ^ k := Nat.pow_le_pow_right (by decide) (by omega)
          omega
        · rw [if_neg hjs] at c1 ⊢
          have := c2 (by omega)
          rw [c1, this]; simp
      rw [e, sumR_add, sumR_ind _ _ _ h1, Nat.mul_add, i2, Nat.pow_succ]
      have e2 : 2 ^ k * (2 * q) = 2 * (2 ^ k * q) := by rw [Nat.mul_left_comm]
      have e3 : 2 ^ k * 2 * m = 2 * (2 ^ k * s) + 2 * (2 ^ k * q) := by rw [← h2, Nat.mul_add, Nat.mul_comm (2 ^ k) 2, Nat.mul_assoc, Nat.mul_assoc]
      rw [e2, e3, Nat.mul_comm s]
/-- The rows are long enough. -/
theorem lv_len (S : List Pcl) (hn : 1 ≤ S.length) : ∀ k, 2 * S.length ≤ (lv S (k + 1)).length + 1 + (S.length - 1) / 2 ^ k := by
  intro k
  induction k with
  | zero => rw [lv, lv]; simp [pairsF, mrg_nil]; omega
  | succ k ih =>
    rw [lv, mrg_length, pairsF_length, Nat.pow_succ, ← Nat.div_div_eq_div_mul]
    omega
/-- KRAFT: the words of these lengths are full. -/
theorem kraft {S : List Pcl} {id : Nat → Nat} (hS : Single S id) (h2 : 2 ≤ S.length) (k : Nat) (hk : S.length ≤ 2 ^ (k + 1)) :
    2 * S.length - 2 ≤ (lv S (k + 1)).length ∧ (∀ j, j < S.length → 1 ≤ cnt S id (k + 1) (2 * S.length - 2) j ∧ cnt S id (k + 1) (2 * S.length - 2) j ≤ k + 1) ∧
    sumR S.length (fun j => 2 ^ (k + 1 - cnt S id (k + 1) (2 * S.length - 2) j)) = 2 ^ (k + 1) := by
  have hl := lv_len S (by omega) k
  have hd : (S.length - 1) / 2 ^ k < 2 := by
    rw [Nat.div_lt_iff_lt_mul (Nat.pos_of_ne_zero (by simp)), Nat.mul_comm, ← Nat.pow_succ]
    omega
  have hm : 2 * S.length - 2 ≤ (lv S (k + 1)).length := by omega
  obtain ⟨c1, c2⟩ := deficit hS (k + 1) (2 * S.length - 2) hm
  have hle : ∀ j, j < S.length → 2 ^ (k + 1 - cnt S id (k + 1) (2 * S.length - 2) j) ≤ 2 ^ (k + 1) := fun j _ => Nat.pow_le_pow_right (by decide) (by omega)
  have hsum : sumR S.length (fun j => 2 ^ (k + 1) - 2 ^ (k + 1 - cnt S id (k + 1) (2 * S.length - 2) j)) + sumR S.length (fun j => 2 ^ (k + 1 - cnt S id (k + 1) (2 * S.length - 2) j)) = S.length * 2 ^ (k + 1) := by
    rw [← sumR_add, sumR_congr (g := fun j => if j < S.length then 2 ^ (k + 1) else 0) (fun j hj => by rw [if_pos hj]; have := hle j hj; omega), sumR_ind _ _ _ (Nat.le_refl _)]
  generalize hc : cnt S id (k + 1) (2 * S.length - 2) = c at *
  have hK : sumR S.length (fun j => 2 ^ (k + 1 - c j)) = 2 ^ (k + 1) := by
    obtain ⟨n, hn⟩ : ∃ n, S.length = n + 1 := ⟨S.length - 1, by omega⟩
    rw [hn] at c2 hsum ⊢
    rw [show 2 * (n + 1) - 2 = 2 * n by omega, Nat.mul_left_comm] at c2
    rw [Nat.succ_mul, Nat.mul_comm n] at hsum
    omega
  refine ⟨hm, fun j hj => ⟨?_, c1 j hj⟩, hK⟩
  rcases Nat.eq_zero_or_pos (c j) with h0 | h0
  · exfalso
    -- one term is all of the sum already, and the others are not nought
    have split : ∀ n, (∀ i, i < n → 1 ≤ 2 ^ (k + 1 - c i)) → ∀ j, j < n → 2 ≤ n → 2 ^ (k + 1 - c j) + 1 ≤ sumR n (fun i => 2 ^ (k + 1 - c i)) := by
      intro n
      induction n with
      | zero => intro _ j hj; omega
      | succ n ih =>
        intro h1 j hj h2
        rw [sumR_succ]
        rcases Nat.lt_or_ge j n with hjn | hjn
        · have hn := h1 n (by omega)
          have hge : 2 ^ (k + 1 - c j) ≤ sumR n (fun i => 2 ^ (k + 1 - c i)) := by
            clear ih h1 h2 hj hn
            induction n with
            | zero => omega
            | succ n ih2 =>
              rw [sumR_succ]
              rcases Nat.lt_or_ge j n with h | h
              · exact Nat.le_trans (ih2 h) (Nat.le_add_right _ _)
              · obtain rfl : j = n := by omega
                omega
          omega
        · obtain rfl : j = n := by omega
          have h0 : 1 ≤ sumR j (fun i => 2 ^ (k + 1 - c i)) := by
            obtain ⟨m, rfl⟩ : ∃ m, j = m + 1 := ⟨j - 1, by omega⟩
            rw [sumR_succ]
            have := h1 m (by omega)
            omega
          omega
    have := split S.length (fun i _ => Nat.one_le_two_pow) j hj h2
    rw [hK, h0] at this
    simp at this
    omega
  · exact h0
/-! ### Sorting that keeps the order of the equal ones -/
def insF (x : Pcl) : List Pcl → List Pcl
  | [] => [x]
  | y :: r => if x.1 ≤ y.1 then x :: y :: r else y :: insF x r
def stab (l : List Pcl) : List Pcl := l.foldr insF []
theorem insF_mem (x : Pcl) : ∀ (l : List Pcl) (z : Pcl), z ∈ insF x l ↔ z = x ∨ z ∈ l := by
  intro l
  induction l with
  | nil => intro z; simp [insF]
  | cons y r ih =>
    intro z
    rw [insF]
    split
    · simp
    · rw [List.mem_cons, ih, List.mem_cons]
      constructor
      · rintro (h | h | h)
        · exact .inr (.inl h)
        · exact .inl h
        · exact .inr (.inr h)
      · rintro (h | h | h)
        · exact .inr (.inl h)
        · exact .inl h
        · exact .inr (.inr h)
theorem insF_perm (x : Pcl) : ∀ l : List Pcl, (insF x l).Perm (x :: l) := by
  intro l
  induction l with
  | nil => exact List.Perm.refl _
  | cons y r ih =>
    rw [insF]
    split
    · exact List.Perm.refl _
    · exact (List.Perm.cons y ih).trans (List.Perm.swap x y r)
theorem insF_srt (x : Pcl) : ∀ l : List Pcl, Srt l → Srt (insF x l) := by
  intro l
  induction l with
  | nil => intro _; simp [insF, Srt]
  | cons y r ih =>
    intro h
    have h2 := List.pairwise_cons.1 h
    rw [insF]
    split
    · rename_i hle
      refine List.pairwise_cons.2 ⟨fun z hz => ?_, h⟩
      rcases List.mem_cons.1 hz with rfl | hz
      · exact hle
      · have := h2.1 z hz; omega
    · rename_i hle
      refine List.pairwise_cons.2 ⟨fun z hz => ?_, ih h2.2⟩
      rcases (insF_mem x r z).1 hz with rfl | hz
      · omega
      · exact h2.1 z hz
theorem stab_srt : ∀ l : List Pcl, Srt (stab l)
  | [] => List.Pairwise.nil
  | x :: l => insF_srt x _ (stab_srt l)
theorem stab_perm : ∀ l : List Pcl, (stab l).Perm l
  | [] => List.Perm.refl _
  | x :: l => (insF_perm x _).trans (List.Perm.cons x (stab_perm l))
theorem insF_filter (x : Pcl) (w : Nat) : ∀ l : List Pcl, (insF x l).filter (fun z => z.1 == w) = if x.1 = w then x :: l.filter (fun z => z.1 == w) else l.filter (fun z => z.1 == w) := by
  intro l
  induction l with
  | nil => by_cases h : x.1 = w <;> simp [insF, h]
  | cons y r ih =>
    rw [insF]
    split
    · by_cases h : x.1 = w
      · rw [if_pos h, List.filter_cons, if_pos (by simpa using h)]
      · rw [if_neg h, List.filter_cons, if_neg (by simpa using h)]
    · rename_i hle
      rw [List.filter_cons, ih, List.filter_cons (xs := r)]
      by_cases h : x.1 = w
      · rw [if_pos h, if_pos h, if_neg (by simp; omega), if_neg (by simp; omega)]
      · rw [if_neg h, if_neg h]
theorem stab_filter (w : Nat) : ∀ l : List Pcl, (stab l).filter (fun z => z.1 == w) = l.filter (fun z => z.1 == w)
  | [] => rfl
  | x :: l => by
    show (insF x (stab l)).filter _ = _
    rw [insF_filter, stab_filter w l, List.filter_cons]
    by_cases h : x.1 = w
    · rw [if_pos h, if_pos (by simpa using h)]
    · rw [if_neg h, if_neg (by simpa using h)]
/-- Two sorted rows in which the ones of each weight come in the same order are one. -/
theorem srt_ext : ∀ (a b : List Pcl), Srt a → Srt b → (∀ w, a.filter (fun z => z.1 == w) = b.filter (fun z => z.1 == w)) → a = b := by
  intro a
  induction a with
  | nil =>
    intro b _ _ h
    cases b with
    | nil => rfl
    | cons y b => have := h y.1; simp at this
  | cons x a ih =>
    intro b ha hb h
    cases b with
    | nil => have := h x.1; simp at this
    | cons y b =>
      have ha2 := List.pairwise_cons.1 ha
      have hb2 := List.pairwise_cons.1 hb
      have hxb : x ∈ y :: b := by
        have : x ∈ (x :: a).filter (fun z => z.1 == x.1) := by simp
        rw [h] at this
        exact (List.mem_filter.1 this).1
      have hya : y ∈ x :: a := by
        have : y ∈ (y :: b).filter (fun z => z.1 == y.1) := by simp
        rw [← h] at this
        exact (List.mem_filter.1 this).1
      have hw : x.1 = y.1 := by
        have h1 : y.1 ≤ x.1 := by
          rcases List.mem_cons.1 hxb with e | e
          · rw [e]; exact Nat.le_refl _
          · exact hb2.1 x e
        have h2 : x.1 ≤ y.1 := by
          rcases List.mem_cons.1 hya with e | e
          · rw [e]; exact Nat.le_refl _
          · exact ha2.1 y e
        omega
      have hxy : x = y := by
        have := h x.1
        rw [List.filter_cons, List.filter_cons, if_pos (by simp), if_pos (by simp [hw])] at this
        exact (List.cons.inj this).1
      subst hxy
      rw [ih b ha2.2 hb2.2 fun w => ?_]
      have := h w
      rw [List.filter_cons, List.filter_cons] at this
      by_cases hx : x.1 = w
      · rw [if_pos (by simpa using hx), if_pos (by simpa using hx)] at this
        exact (List.cons.inj this).2
      · rw [if_neg (by simpa using hx), if_neg (by simpa using hx)] at this
        exact this
/-- What a sort gives that keeps the order of the equal ones. -/
theorem stab_of {l l' : List Pcl} (h1 : Srt l') (h2 : ∀ w, l'.filter (fun z => z.1 == w) = l.filter (fun z => z.1 == w)) : l' = stab l :=
  srt_ext _ _ h1 (stab_srt l) fun w => by rw [h2 w, stab_filter]
theorem insF_mrg (x : Pcl) : ∀ (a b : List Pcl), (∀ z ∈ a, x.1 ≤ z.1) → insF x (mrg a b) = mrg (x :: a) b := by
  intro a b
  induction b with
  | nil =>
    intro h
    rw [mrg_nil, mrg_nil]
    cases a with
    | nil => rfl
    | cons u a => rw [insF, if_pos (h u (by simp))]
  | cons y b ih =>
    intro h
    rw [mrg]
    by_cases hxy : x.1 ≤ y.1
    · rw [if_pos hxy]
      cases a with
      | nil => simp only [mrg]; rw [insF, if_pos hxy]
      | cons u a =>
        rw [mrg]
        split
        · rw [insF, if_pos (h u (by simp))]
        · rw [insF, if_pos hxy]
    · rw [if_neg hxy]
      have ih := ih h
      cases a with
      | nil =>
        simp only [mrg] at ih ⊢
        rw [insF, if_neg hxy, ih]
      | cons u a =>
        have hu := h u (by simp)
        rw [mrg, if_neg (by omega), insF, if_neg hxy, ih]
theorem stab_self : ∀ l : List Pcl, Srt l → stab l = l
  | [], _ => rfl
  | x :: l, h => by
    have h2 := List.pairwise_cons.1 h
    show insF x (stab l) = _
    rw [stab_self l h2.2]
    cases l with
    | nil => rfl
    | cons y l => rw [insF, if_pos (h2.1 y (by simp))]
theorem stab_mrg : ∀ (a b : List Pcl), Srt a → Srt b → stab (a ++ b) = mrg a b
  | [], b, _, hb => by rw [List.nil_append, stab_self b hb]; simp [mrg]
  | x :: a, b, ha, hb => by
    have h2 := List.pairwise_cons.1 ha
    show insF x (stab (a ++ b)) = _
    rw [stab_mrg a b h2.2 hb, insF_mrg x a b h2.1]
end Go.Mz

namespace Go.Mz
open Go.RowKit
set_option linter.unusedVariables false
set_option linter.unusedSimpArgs false

def krT (n x : Nat) : Nat := if 1 ≤ x ∧ x < n then 2 ^ (n - x) else 0
def krS (n : Nat) (l : List Nat) : Nat := (l.map (krT n)).sum
theorem krS_cons (n x : Nat) (l : List Nat) : krS n (x :: l) = krT n x + krS n l := by simp [krS]
theorem krS_step (n : Nat) (l : List Nat) : krS (n + 1) l = (krS n l + cntC l n) * 2 := by
  induction l with
  | nil => simp [krS, cntC]
  | cons x l ih =>
    rw [krS_cons, krS_cons, ih]
    have hc : cntC (x :: l) n = cntC l n + if 1 ≤ n ∧ x = n then 1 else 0 := by
      rw [cntC, cntC]
      by_cases h0 : n = 0
      · rw [if_pos h0, if_pos h0, if_neg (by omega)]
      · rw [if_neg h0, if_neg h0, List.count_cons]
        by_cases hx : x = n
        · subst hx
          simp only [beq_self_eq_true, if_true]
          rw [if_pos (show 1 ≤ x ∧ True from ⟨by omega, trivial⟩)]
        · simp [hx]
    rw [hc, krT, krT]
    by_cases h1 : 1 ≤ x ∧ x < n
    · rw [if_pos h1, if_pos (by omega), if_neg (by omega), show n + 1 - x = (n - x) + 1 by omega, Nat.pow_succ]
      omega
    · by_cases h2 : 1 ≤ n ∧ x = n
      · obtain ⟨h2, rfl⟩ := h2
        rw [if_neg h1, if_pos (by omega), if_pos ⟨h2, rfl⟩, show x + 1 - x = 1 by omega]
        omega
      · rw [if_neg h1, if_neg (by omega), if_neg h2]
        omega
theorem codeC_kr (l : List Nat) : ∀ n, codeC l n = krS n l := by
  intro n
  induction n with
  | zero =>
    rw [codeC]
    induction l with
    | nil => rfl
    | cons x l ih => rw [krS_cons, ← ih, krT, if_neg (by omega)]
  | succ n ih => rw [codeC, ih, krS_step]
theorem krS_up (l : List Nat) (n : Nat) : ∀ d, krS n l * 2 ^ d ≤ krS (n + d) l := by
  intro d
  induction d with
  | zero => simp
  | succ d ih =>
    rw [← Nat.add_assoc, krS_step, Nat.pow_succ, ← Nat.mul_assoc]
    exact Nat.mul_le_mul_right _ (Nat.le_trans ih (Nat.le_add_right _ _))
/-- Whose words' weights are one in all. -/
theorem kraft_full {l : List Nat} (h : krS 31 l = 2 ^ 31) : fullC l = true ∧ OkC l := by
  refine ⟨by rw [fullC, codeC_kr, h]; simp, fun n hn => ?_⟩
  have e : (codeC l n + cntC l n) * 2 = krS (n + 1) l := by rw [codeC_kr, krS_step]
  have h1 := krS_up l (n + 1) (30 - n)
  rw [show n + 1 + (30 - n) = 31 by omega, h, ← e, Nat.mul_assoc] at h1
  have e2 : 2 * 2 ^ (30 - n) = 2 ^ (31 - n) := by rw [Nat.mul_comm, ← Nat.pow_succ]; congr 1; omega
  rw [e2, show (2 : Nat) ^ 31 = 2 ^ n * 2 ^ (31 - n) by rw [← Nat.pow_add]; congr 1; omega] at h1
  exact Nat.le_of_mul_le_mul_right h1 (Nat.pos_of_ne_zero (by simp))
end Go.Mz

namespace Go.Mz
open Go.RowKit
set_option linter.unusedVariables false
set_option linter.unusedSimpArgs false

def sing (often : List Nat) (k : Nat) : List Pcl := ((List.range k).filter fun i => decide (0 < often.getD i 0)).map fun i => (often.getD i 0, [i])
theorem sing_succ (often : List Nat) (k : Nat) : sing often (k + 1) = sing often k ++ if 0 < often.getD k 0 then [(often.getD k 0, [k])] else [] := by
  rw [sing, List.range_succ, List.filter_append, List.map_append, sing]
  congr 1
  by_cases h : 0 < often.getD k 0
  · rw [if_pos h, List.filter_cons, if_pos (by simpa using h)]; rfl
  · rw [if_neg h, List.filter_cons, if_neg (by simpa using h)]; rfl
theorem sing_mem {often : List Nat} {k : Nat} {u : Pcl} (h : u ∈ sing often k) : ∃ i, i < k ∧ 0 < often.getD i 0 ∧ u = (often.getD i 0, [i]) := by
  obtain ⟨i, hi, rfl⟩ := List.mem_map.1 h
  obtain ⟨h1, h2⟩ := List.mem_filter.1 hi
  exact ⟨i, List.mem_range.1 h1, by simpa using h2, rfl⟩
theorem mem_sing {often : List Nat} {k i : Nat} (h : i < k) (h0 : 0 < often.getD i 0) : (often.getD i 0, [i]) ∈ sing often k :=
  List.mem_map.2 ⟨i, List.mem_filter.2 ⟨List.mem_range.2 h, by simpa using h0⟩, rfl⟩
/-- How many things come. -/
def comes (often : List Nat) : Nat := (sing often often.length).length
def hd1 (u : Pcl) : Nat := u.2.headD 0
theorem sing_ids (often : List Nat) (k : Nat) : (sing often k).map hd1 = (List.range k).filter fun i => decide (0 < often.getD i 0) := by
  rw [sing, List.map_map]
  conv => rhs; rw [← List.map_id ((List.range k).filter fun i => decide (0 < often.getD i 0))]
  rfl
theorem sing_nodup (often : List Nat) (k : Nat) : ((sing often k).map hd1).Nodup := by
  rw [sing_ids]; exact List.Pairwise.filter _ List.nodup_range
def rowS (often : List Nat) : List Pcl := stab (sing often often.length)
def idS (often : List Nat) (j : Nat) : Nat := ((rowS often).map hd1).getD j 0
theorem rowS_len (often : List Nat) : (rowS often).length = comes often := (stab_perm _).length_eq
theorem rowS_mem {often : List Nat} {u : Pcl} (h : u ∈ rowS often) : ∃ i, i < often.length ∧ 0 < often.getD i 0 ∧ u = (often.getD i 0, [i]) := sing_mem ((stab_perm _).mem_iff.1 h)
theorem idS_nodup (often : List Nat) : ((rowS often).map hd1).Nodup := ((stab_perm (sing often often.length)).map hd1).nodup_iff.2 (sing_nodup _ _)
theorem rowS_single (often : List Nat) : Single (rowS often) (idS often) := by
  refine ⟨stab_srt _, fun j u hu => ?_, fun i j hi hj h => ?_⟩
  · obtain ⟨i, h1, h2, rfl⟩ := rowS_mem (List.mem_of_getElem? hu)
    have e : ((rowS often).map hd1)[j]? = some i := by rw [List.getElem?_map, hu]; rfl
    show [i] = [((rowS often).map hd1).getD j 0]
    rw [List.getD_eq_getElem?_getD (l := (rowS often).map hd1), e]
    rfl
  · have h1 : i < ((rowS often).map hd1).length := by rw [List.length_map]; exact hi
    have h2 : j < ((rowS often).map hd1).length := by rw [List.length_map]; exact hj
    rw [idS, idS, List.getD_eq_getElem?_getD, List.getD_eq_getElem?_getD, List.getElem?_eq_getElem h1, List.getElem?_eq_getElem h2] at h
    exact (List.getElem_inj (idS_nodup often)).1 h
theorem idS_mem {often : List Nat} {i : Nat} : i ∈ (rowS often).map hd1 ↔ i < often.length ∧ 0 < often.getD i 0 := by
  constructor
  · intro h
    obtain ⟨u, hu, rfl⟩ := List.mem_map.1 h
    obtain ⟨i, h1, h2, rfl⟩ := rowS_mem hu
    exact ⟨h1, h2⟩
  · rintro ⟨h1, h2⟩
    exact List.mem_map.2 ⟨_, (stab_perm _).mem_iff.2 (mem_sing h1 h2), rfl⟩
theorem idS_at {often : List Nat} {i : Nat} (h : i < often.length) (h0 : 0 < often.getD i 0) : ∃ j, j < (rowS often).length ∧ idS often j = i := by
  obtain ⟨j, hj, he⟩ := List.mem_iff_getElem.1 (idS_mem.2 ⟨h, h0⟩)
  refine ⟨j, by rw [List.length_map] at hj; exact hj, ?_⟩
  rw [idS, List.getD_eq_getElem?_getD, List.getElem?_eq_getElem hj]; exact he
theorem idS_lt {often : List Nat} {j : Nat} (h : j < (rowS often).length) : idS often j < often.length ∧ 0 < often.getD (idS often j) 0 := by
  have hj : j < ((rowS often).map hd1).length := by rw [List.length_map]; exact h
  refine idS_mem.1 ?_
  rw [idS, List.getD_eq_getElem?_getD, List.getElem?_eq_getElem hj]
  exact List.getElem_mem hj
/-- A sum over all places is one over those where it is not nought. -/
theorem sum_over (g : Nat → Nat) (N : Nat) (L : List Nat) (hn : L.Nodup) (hl : ∀ i ∈ L, i < N) (h0 : ∀ i, i < N → i ∉ L → g i = 0) : ((List.range N).map g).sum = (L.map g).sum := by
  have hp : L.Perm ((List.range N).filter fun i => decide (i ∈ L)) := by
    refine (List.perm_ext_iff_of_nodup hn (List.Pairwise.filter _ List.nodup_range)).2 fun i => ?_
    rw [List.mem_filter, List.mem_range, decide_eq_true_eq]
    exact ⟨fun h => ⟨hl i h, h⟩, fun h => h.2⟩
  rw [(hp.map g).sum_nat]
  have key : ∀ M : List Nat, (∀ i ∈ M, i < N) → (M.map g).sum = ((M.filter fun i => decide (i ∈ L)).map g).sum := by
    intro M
    induction M with
    | nil => intro _; rfl
    | cons x M ih =>
      intro hM
      rw [List.map_cons, List.sum_cons, ih fun i hi => hM i (by simp [hi]), List.filter_cons]
      by_cases hx : x ∈ L
      · rw [if_pos (by simpa using hx), List.map_cons, List.sum_cons]
      · rw [if_neg (by simpa using hx), h0 x (hM x (by simp)) hx, Nat.zero_add]
  exact key _ fun i hi => List.mem_range.1 hi

def limC (often : List Nat) (most : Nat) : List Nat := cho (rowS often) most (2 * comes often - 2)
def limL (often : List Nat) (most : Nat) : List Nat := (List.range often.length).map fun i => (limC often most).count i
/-- What lengths are for how often things come. -/
structure LimOk (often : List Nat) (most : Nat) (l : List Nat) : Prop where
  len : l.length = often.length
  pos : ∀ i, i < often.length → (0 < l.getD i 0 ↔ 0 < often.getD i 0)
  le : ∀ n ∈ l, n ≤ most
  full : 2 ≤ comes often → krS 31 l = 2 ^ 31
  one : comes often ≤ 1 → ∀ n ∈ l, n ≤ 1
theorem lv_ids {often : List Nat} : ∀ k, ∀ u ∈ lv (rowS often) k, ∀ i ∈ u.2, i < often.length ∧ 0 < often.getD i 0 := by
  intro k
  induction k with
  | zero => intro u hu; simp [lv] at hu
  | succ k ih =>
    intro u hu i hi
    rw [lv] at hu
    rcases mrg_mem _ _ _ hu with h | h
    · obtain ⟨j, h1, h2, rfl⟩ := rowS_mem h
      simp at hi
      subst hi
      exact ⟨h1, h2⟩
    · have key : ∀ l : List Pcl, (∀ u ∈ l, ∀ i ∈ u.2, i < often.length ∧ 0 < often.getD i 0) → ∀ u ∈ pairsF l, ∀ i ∈ u.2, i < often.length ∧ 0 < often.getD i 0 := by
        intro l
        induction l using pairsF.induct with
        | case1 x y r ih =>
          intro hl u hu i hi
          rw [pairsF] at hu
          rcases List.mem_cons.1 hu with rfl | hu
          · rcases List.mem_append.1 hi with hi | hi
            · exact hl x (by simp) i hi
            · exact hl y (by simp) i hi
          · exact ih (fun u hu => hl u (by simp [hu])) u hu i hi
        | case2 l h =>
          intro hl u hu
          rw [pairsF] at hu
          · cases hu
          · exact h
      exact key _ ih u h i hi
theorem limC_mem {often : List Nat} {most i : Nat} (h : i ∈ limC often most) : i < often.length ∧ 0 < often.getD i 0 := by
  obtain ⟨u, hu, hi⟩ := List.mem_flatMap.1 h
  exact lv_ids most u (List.mem_of_mem_take hu) i hi
theorem limL_get {often : List Nat} {most i : Nat} (h : i < often.length) : (limL often most).getD i 0 = (limC often most).count i := by
  rw [limL, List.getD_eq_getElem?_getD, List.getElem?_map, List.getElem?_range h]; rfl
theorem limL_ok {often : List Nat} {most : Nat} (h2 : 2 ≤ comes often) (hm : comes often ≤ 2 ^ most) (h1 : 1 ≤ most) (h30 : most ≤ 30) : LimOk often most (limL often most) := by
  obtain ⟨k, rfl⟩ : ∃ k, most = k + 1 := ⟨most - 1, by omega⟩
  have hS := rowS_single often
  have hl := rowS_len often
  obtain ⟨q1, q2, q3⟩ := kraft hS (by rw [hl]; exact h2) k (by rw [hl]; exact hm)
  rw [hl] at q1 q2 q3
  have hc : ∀ j, j < comes often → (limC often (k + 1)).count (idS often j) = cnt (rowS often) (idS often) (k + 1) (2 * comes often - 2) j := fun j hj => rfl
  refine ⟨by simp [limL], fun i hi => ?_, fun n hn => ?_, fun _ => ?_, fun h => by omega⟩
  · rw [limL_get hi]
    constructor
    · intro h
      exact (limC_mem (List.count_pos_iff.1 h)).2
    · intro h
      obtain ⟨j, hj, rfl⟩ := idS_at hi h
      rw [hl] at hj
      rw [hc j hj]
      have := (q2 j hj).1
      omega
  · obtain ⟨i, hi, rfl⟩ := List.mem_map.1 hn
    have hi := List.mem_range.1 hi
    by_cases h : 0 < often.getD i 0
    · obtain ⟨j, hj, rfl⟩ := idS_at hi h
      rw [hl] at hj
      rw [hc j hj]
      exact (q2 j hj).2
    · rw [List.count_eq_zero.2 fun hm => h (limC_mem hm).2]
      omega
  · have e : krS 31 (limL often (k + 1)) = ((List.range often.length).map fun i => krT 31 ((limC often (k + 1)).count i)).sum := by
      rw [krS, limL, List.map_map]; rfl
    rw [e, sum_over (fun i => krT 31 ((limC often (k + 1)).count i)) often.length ((rowS often).map hd1) (idS_nodup often) (fun i hi => (idS_mem.1 hi).1) (fun i hi hn => by
      rw [List.count_eq_zero.2 fun hm => hn (idS_mem.2 (limC_mem hm))]; rfl)]
    have e2 : (rowS often).map hd1 = (List.range (comes often)).map (idS often) := by
      refine List.ext_getElem (by simp [hl]) fun j h1 h2 => ?_
      rw [List.getElem_map (f := idS often), List.getElem_range, idS, List.getD_eq_getElem?_getD, List.getElem?_eq_getElem h1]
      rfl
    rw [e2, List.map_map]
    have e3 : ((List.range (comes often)).map ((fun i => krT 31 ((limC often (k + 1)).count i)) ∘ idS often)).sum = sumR (comes often) fun j => 2 ^ (30 - k) * 2 ^ (k + 1 - cnt (rowS often) (idS often) (k + 1) (2 * comes often - 2) j) := by
      rw [sumR]
      congr 1
      refine List.map_congr_left fun j hj => ?_
      have hj := List.mem_range.1 hj
      obtain ⟨b1, b2⟩ := q2 j hj
      simp only [Function.comp_apply, hc j hj]
      rw [krT, if_pos (by omega), ← Nat.pow_add]
      congr 1; omega
    rw [e3]
    have e4 : ∀ (n c : Nat) (f : Nat → Nat), sumR n (fun j => c * f j) = c * sumR n f := by
      intro n c f
      induction n with
      | zero => rfl
      | succ n ih => rw [sumR_succ, sumR_succ, ih, Nat.mul_add]
    rw [e4, q3, ← Nat.pow_add]
    congr 1; omega
end Go.Mz
