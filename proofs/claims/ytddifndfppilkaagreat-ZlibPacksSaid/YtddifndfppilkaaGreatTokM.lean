/-
  Layer 8 (inflate): tokens, and what the given words tell of them, as plain Lean; no program.
-/
import Derived.Test.YtddifndfppilkaaGreatInfH
import Derived.Test.YtddifndfppilkaaGreatWrM
import Derived.Test.YtddifndfppilkaaGreatTrieC
namespace Go.Proofs.YtddifndfppilkaaGreat
open Go.RowKit Go.Mz
set_option linter.unusedVariables false
set_option linter.unusedSimpArgs false

structure TokD where
  lit : UInt8
  len : Int
  dist : Int
  deriving Inhabited
def rightF : List TokD → List UInt8 → Option (List UInt8)
  | [], out => some out
  | k :: r, out => if k.len = 0 then rightF r (out ++ [k.lit]) else if k.len < 3 ∨ 258 < k.len ∨ k.dist < 1 ∨ (out.length : Int) < k.dist ∨ 32768 < k.dist ∨ 2000 < out.length then none else rightF r (copyF k.dist.toNat k.len.toNat out)
/-- The place of a number: the last that doesn't count from above it. -/
def plI (L : List (Nat × Nat)) (n : Nat) : Nat → Nat
  | 0 => 0
  | i + 1 => if (L.getD (i + 1) (0, 0)).1 ≤ n then i + 1 else plI L n i
def plF (far : Bool) (n : Nat) : Nat := plI (cond far distsB lensB) n ((cond far distsB lensB).length - 1)
def frF (far : Bool) (n : Nat) : Nat × Nat := (cond far distsB lensB).getD (plF far n) (0, 0)
def moreF (far : Bool) (n : Nat) : List Nat := (wordB (n - (frF far n).1) (frF far n).2).reverse
def tokB (A B : List (List Nat)) (k : TokD) : List Nat :=
  if k.len = 0 then A.getD k.lit.toNat [] else A.getD (257 + plF false k.len.toNat) [] ++ (moreF false k.len.toNat ++ (B.getD (plF true k.dist.toNat) [] ++ moreF true k.dist.toNat))
def toldB (A B : List (List Nat)) (l : List TokD) : List Nat := l.flatMap (tokB A B) ++ A.getD 256 []

theorem plI_le (L : List (Nat × Nat)) (n : Nat) : ∀ i, plI L n i ≤ i := by
  intro i
  induction i with
  | zero => exact Nat.le_refl _
  | succ i ih =>
    rw [plI]
    split
    · exact Nat.le_refl _
    · omega
theorem plI_low (L : List (Nat × Nat)) (n : Nat) (h0 : (L.getD 0 (0, 0)).1 ≤ n) : ∀ i, (L.getD (plI L n i) (0, 0)).1 ≤ n := by
  intro i
  induction i with
  | zero => exact h0
  | succ i ih =>
    rw [plI]
    split
    · assumption
    · exact ih
theorem plI_up (L : List (Nat × Nat)) (n : Nat) : ∀ i, plI L n i < i → n < (L.getD (plI L n i + 1) (0, 0)).1 := by
  intro i
  induction i with
  | zero => intro h; exact absurd h (Nat.not_lt_zero _)
  | succ i ih =>
    intro h
    rw [plI] at h ⊢
    split at h
    · omega
    · rename_i hn
      rw [if_neg hn]
      by_cases he : plI L n i = i
      · rw [he]; omega
      · exact ih (by have := plI_le L n i; omega)
/-- Each number's surplus has room in its bits. -/
theorem lensB_gap : ∀ i, i < 28 → (lensB.getD (i + 1) (0, 0)).1 ≤ (lensB.getD i (0, 0)).1 + 2 ^ (lensB.getD i (0, 0)).2 := by decide
theorem distsB_gap : ∀ i, i < 29 → (distsB.getD (i + 1) (0, 0)).1 ≤ (distsB.getD i (0, 0)).1 + 2 ^ (distsB.getD i (0, 0)).2 := by decide
theorem plF_lens {n : Nat} (h3 : 3 ≤ n) (h258 : n ≤ 258) : plF false n ≤ 28 ∧ (frF false n).1 ≤ n ∧ n - (frF false n).1 < 2 ^ (frF false n).2 := by
  have h1 : plF false n ≤ 28 := plI_le lensB n 28
  have h2 : (frF false n).1 ≤ n := plI_low lensB n h3 28
  refine ⟨h1, h2, ?_⟩
  by_cases he : plF false n = 28
  · have e : frF false n = (258, 0) := by rw [frF, he]; rfl
    rw [e]; simp; omega
  · have h4 : n < (lensB.getD (plF false n + 1) (0, 0)).1 := plI_up lensB n 28 (by have : plI lensB n 28 ≠ 28 := he; have := plI_le lensB n 28; omega)
    have h5 := lensB_gap (plF false n) (by omega)
    have e : frF false n = lensB.getD (plF false n) (0, 0) := rfl
    rw [e] at h2 ⊢
    omega
theorem plF_dists {n : Nat} (h1 : 1 ≤ n) (h9 : n ≤ 32768) : plF true n ≤ 29 ∧ (frF true n).1 ≤ n ∧ n - (frF true n).1 < 2 ^ (frF true n).2 := by
  have h2 : plF true n ≤ 29 := plI_le distsB n 29
  have h3 : (frF true n).1 ≤ n := plI_low distsB n h1 29
  refine ⟨h2, h3, ?_⟩
  by_cases he : plF true n = 29
  · have e : frF true n = (24577, 13) := by rw [frF, he]; rfl
    rw [e]; simp; omega
  · have h4 : n < (distsB.getD (plF true n + 1) (0, 0)).1 := plI_up distsB n 29 (by have : plI distsB n 29 ≠ 29 := he; have := plI_le distsB n 29; omega)
    have h5 := distsB_gap (plF true n) (by omega)
    have e : frF true n = distsB.getD (plF true n) (0, 0) := rfl
    rw [e] at h3 ⊢
    omega
theorem frF_get {far : Bool} {n : Nat} (h : plF far n < (cond far distsB lensB).length) : (cond far distsB lensB)[plF far n]? = some ((frF far n).1, (frF far n).2) := by
  rw [frF, List.getD_eq_getElem?_getD, List.getElem?_eq_getElem h]; rfl
theorem length_moreF (far : Bool) (n : Nat) : (moreF far n).length = (frF far n).2 := by simp [moreF]

theorem drop_getD {t u : List Nat} {p : Nat} (h : t.drop p = u) (i : Nat) : t.getD (p + i) 0 = u.getD i 0 := by
  rw [← h, List.getD_eq_getElem?_getD, List.getD_eq_getElem?_getD, List.getElem?_drop]
theorem drop_len {t u : List Nat} {p : Nat} (h : t.drop p = u) (hu : u ≠ [] ∨ p ≤ t.length) : t.length = p + u.length := by
  have := congrArg List.length h
  rw [List.length_drop] at this
  rcases hu with hu | hu
  · have : u.length ≠ 0 := fun h0 => hu (List.eq_nil_of_length_eq_zero h0)
    omega
  · omega
theorem vl_word {t r : List Nat} {p v n : Nat} (h : t.drop p = (wordB v n).reverse ++ r) (hv : v < 2 ^ n) : vl t p n = v := by
  refine numV_wrN true v n hv _ fun i hi => ?_
  rw [drop_getD h, List.getD_eq_getElem?_getD, List.getElem?_append_left (by simp; exact hi)]
  rw [List.getD_eq_getElem?_getD]; rfl
theorem number_hit {t r : List Nat} {p i f e v : Nat} {L : List (Nat × Nat)} (hi : L[i]? = some (f, e)) (hp : p ≤ t.length) (h : t.drop p = (wordB v e).reverse ++ r) (hv : v < 2 ^ e) : numberF t L i p = .inr (p + e, f + v) := by
  have hl := drop_len h (.inr hp)
  rw [numberF, hi]
  simp only
  rw [if_neg (by rw [hl]; simp), vl_word h hv]
theorem number_cut {t r : List Nat} {p i f e : Nat} {L : List (Nat × Nat)} (hi : L[i]? = some (f, e)) (hp : p ≤ t.length) (h : t.drop p = r) (hr : r.length < e) : numberF t L i p = .inl 2 := by
  have hl := drop_len h (.inr hp)
  rw [numberF, hi]
  simp only
  rw [if_pos (by omega)]
theorem rdW_cut {W : List (List Nat)} (pf : PF W) {i : Nat} {w : List Nat} (hi : W[i]? = some w) :
    ∀ (r s q : List Nat), s ++ (r ++ q) = w → q ≠ [] → rdW W s r = (s.length + r.length, .inr 2) := by
  intro r
  induction r with
  | nil => intro s q _ _; rw [rdW]; rfl
  | cons c r ih =>
    intro s q hs hq
    have hs' : (s ++ [c]) ++ (r ++ q) = w := by rw [← hs]; simp
    have hno : ∀ j : Nat, W[j]? ≠ some (s ++ [c]) := fun j hj => by
      have hpre : (s ++ [c]) <+: w := ⟨r ++ q, hs'⟩
      by_cases hji : j = i
      · subst hji
        rw [hi] at hj
        have e : w = s ++ [c] := Option.some.inj hj
        rw [← hs'] at e
        have := congrArg List.length e
        have hq2 : q.length ≠ 0 := fun h0 => hq (List.eq_nil_of_length_eq_zero h0)
        simp at this
        exact hq this.2
      · exact pf j i _ _ hji hj hi snoc_ne hpre
    have e2 : W.any (fun w => (s ++ [c]).isPrefixOf w) = true := List.any_eq_true.2 ⟨w, List.mem_of_getElem? hi, List.isPrefixOf_iff_prefix.2 ⟨r ++ q, hs'⟩⟩
    rw [rdW, find_none hno, e2]
    simp only [if_true]
    rw [ih (s ++ [c]) q hs' hq]
    simp; omega
/-- Good words for tokens: none begins another one, there are enough, none is empty. -/
structure GoodW (A B : List (List Nat)) : Prop where
  pa : PF A
  pb : PF B
  la : ∀ i, i < 288 → ∃ w, A[i]? = some w ∧ w ≠ []
  lb : ∀ i, i < 30 → ∃ w, B[i]? = some w ∧ w ≠ []
theorem getD_some {W : List (List Nat)} {i : Nat} {w : List Nat} (h : W[i]? = some w) : W.getD i [] = w := by
  rw [List.getD_eq_getElem?_getD, h]; rfl
theorem rdW_at {W : List (List Nat)} (pf : PF W) {i : Nat} {w r : List Nat} (hi : W[i]? = some w) (hw : w ≠ []) : rdW W [] (w ++ r) = (w.length, .inl i) := rdW_hit pf hi w [] r rfl hw
theorem drop_more {t a b : List Nat} {p : Nat} (h : t.drop p = a ++ b) : t.drop (p + a.length) = b := by
  rw [← List.drop_drop, h, List.drop_left]
/-- A token that can be, behind so much: what it puts out. -/
def okT (k : TokD) (out : List UInt8) : Prop := k.len = 0 ∨ (3 ≤ k.len ∧ k.len ≤ 258 ∧ 1 ≤ k.dist ∧ k.dist ≤ out.length ∧ k.dist ≤ 32768)
def putT (k : TokD) (out : List UInt8) : List UInt8 := if k.len = 0 then out ++ [k.lit] else copyF k.dist.toNat k.len.toNat out
theorem copyF_fore (d n : Nat) (a out : List UInt8) (hd : 1 ≤ d) (h : d ≤ out.length) : copyF d n (a ++ out) = a ++ copyF d n out := by
  induction n generalizing out with
  | zero => rfl
  | succ n ih =>
    rw [copyF, copyF]
    have e : (a ++ out).getD ((a ++ out).length - d) 0 = out.getD (out.length - d) 0 := by
      rw [List.getD_eq_getElem?_getD, List.getD_eq_getElem?_getD, List.length_append, List.getElem?_append_right (by omega), show a.length + out.length - d - a.length = out.length - d by omega]
    rw [e, List.append_assoc]
    exact ih _ (by simp; omega)
theorem putT_fore {k : TokD} {a out : List UInt8} (h : okT k out) : putT k (a ++ out) = a ++ putT k out := by
  unfold putT
  rcases h with h | ⟨h1, h2, h3, h4, h5⟩
  · rw [if_pos h, if_pos h, List.append_assoc]
  · rw [if_neg (by omega), if_neg (by omega)]
    exact copyF_fore _ _ _ _ (by omega) (by omega)
theorem putT_len (k : TokD) (out : List UInt8) (h : okT k out) : out.length < (putT k out).length := by
  unfold putT
  rcases h with h | ⟨h1, h2, h3, h4, h5⟩
  · rw [if_pos h]; simp
  · rw [if_neg (by omega), copyF_len]; omega
theorem rightF_step {k : TokD} {r : List TokD} {out want : List UInt8} (h : rightF (k :: r) out = some want) : okT k out ∧ rightF r (putT k out) = some want := by
  rw [rightF] at h
  unfold putT okT
  by_cases h0 : k.len = 0
  · rw [if_pos h0] at h ⊢
    exact ⟨.inl h0, h⟩
  · rw [if_neg h0] at h
    split at h
    · cases h
    · rename_i hn
      rw [if_neg h0]
      exact ⟨.inr (by omega), h⟩
theorem rightF_mono : ∀ (l : List TokD) (out want : List UInt8), rightF l out = some want → out.length ≤ want.length := by
  intro l
  induction l with
  | nil => intro out want h; rw [rightF] at h; rw [Option.some.inj h]; exact Nat.le_refl _
  | cons k l ih =>
    intro out want h
    obtain ⟨hk, hr⟩ := rightF_step h
    have := ih _ _ hr
    have := putT_len k out hk
    omega
theorem okT_fore {k : TokD} {a out : List UInt8} (h : okT k out) : okT k (a ++ out) := by
  rcases h with h | ⟨h1, h2, h3, h4, h5⟩
  · exact .inl h
  · exact .inr ⟨h1, h2, h3, by rw [List.length_append]; omega, h5⟩
theorem litNat (c : UInt8) : UInt8.ofNat c.toNat = c := UInt8.ofNat_toNat
/-- One token. -/
theorem block_tok {t r : List Nat} {A B : List (List Nat)} (G : GoodW A B) {k : TokD} {out : List UInt8} (hk : okT k out) {p most : Nat} (hp : p ≤ t.length) (h : t.drop p = tokB A B k ++ r) :
    blockS t A B most p out = if most < (putT k out).length then .inl 8 else .inr (p + (tokB A B k).length, putT k out, false) := by
  unfold tokB at h ⊢
  unfold putT
  rw [blockS]
  by_cases h0 : k.len = 0
  · rw [if_pos h0] at h ⊢
    rw [if_pos h0]
    have hlt := UInt8.toNat_lt k.lit
    have hlt : k.lit.toNat < 256 := hlt
    obtain ⟨w, hw, hne⟩ := G.la k.lit.toNat (by omega)
    rw [getD_some hw] at h ⊢
    rw [h, rdW_at G.pa hw hne]
    simp only
    rw [if_neg (by omega), if_pos hlt, litNat]
    by_cases hm : most ≤ out.length
    · rw [if_pos hm, if_pos (by simp; omega)]
    · rw [if_neg hm, if_neg (by simp; omega)]
  · obtain ⟨h1, h2, h3, h4, h5⟩ := hk.resolve_left h0
    rw [if_neg h0] at h ⊢
    rw [if_neg h0]
    obtain ⟨n, hn⟩ : ∃ n : Nat, k.len = n := ⟨k.len.toNat, by omega⟩
    obtain ⟨d, hd⟩ : ∃ d : Nat, k.dist = d := ⟨k.dist.toNat, by omega⟩
    rw [hn] at h h1 h2 ⊢
    rw [hd] at h h3 h4 h5 ⊢
    simp only [Int.toNat_natCast] at h ⊢
    obtain ⟨p1, p2, p3⟩ := plF_lens (n := n) (by omega) (by omega)
    obtain ⟨q1, q2, q3⟩ := plF_dists (n := d) (by omega) (by omega)
    obtain ⟨w, hw, hne⟩ := G.la (257 + plF false n) (by omega)
    obtain ⟨u, hu, hne'⟩ := G.lb (plF true d) (by omega)
    rw [getD_some hw, getD_some hu] at h ⊢
    rw [List.append_assoc, List.append_assoc, List.append_assoc] at h
    rw [h, rdW_at G.pa hw hne]
    simp only
    rw [if_neg (by omega), if_neg (by omega), show 257 + plF false n - 257 = plF false n by omega]
    have e1 := drop_more h
    have l1 : p + w.length ≤ t.length := by have := drop_len h (.inr hp); rw [List.length_append] at this; omega
    have g1 : lensB[plF false n]? = some ((frF false n).1, (frF false n).2) := frF_get (far := false) (by show _ < 29; omega)
    rw [number_hit g1 l1 e1 p3]
    simp only
    have e2 := drop_more e1
    rw [length_moreF] at e2
    have l2 : p + w.length + (frF false n).2 ≤ t.length := by have := drop_len e1 (.inr l1); rw [List.length_append, length_moreF] at this; omega
    have e3 := drop_more e2
    have l3 : p + w.length + (frF false n).2 + u.length ≤ t.length := by have := drop_len e2 (.inr l2); rw [List.length_append] at this; omega
    have g2 : distsB[plF true d]? = some ((frF true d).1, (frF true d).2) := frF_get (far := true) (by show _ < 30; omega)
    rw [copyR, e2, rdW_at G.pb hu hne']
    simp only
    rw [number_hit g2 l3 e3 q3]
    simp only
    rw [show (frF true d).1 + (d - (frF true d).1) = d by omega, show (frF false n).1 + (n - (frF false n).1) = n by omega, if_neg (by omega), copyF_len]
    by_cases hm : most < out.length + n
    · rw [if_pos hm, if_pos hm]
    · rw [if_neg hm, if_neg hm]
      simp only [List.length_append, length_moreF]
      congr 2
      omega
/-- A token that is cut off. -/
theorem pre_split {a b u : List Nat} (h : u <+: a ++ b) : (∃ q, q ≠ [] ∧ u ++ q = a) ∨ ∃ v, u = a ++ v ∧ v <+: b := by
  obtain ⟨z, hz⟩ := h
  rcases List.append_eq_append_iff.1 hz with ⟨c, hc, hd⟩ | ⟨c, hc, hd⟩
  · by_cases h0 : c = []
    · subst h0
      rw [List.append_nil] at hc
      exact .inr ⟨[], by rw [List.append_nil]; exact hc.symm, List.nil_prefix⟩
    · exact .inl ⟨c, h0, hc.symm⟩
  · exact .inr ⟨c, hc, ⟨z, hd.symm⟩⟩
theorem tok_cut {t u : List Nat} {A B : List (List Nat)} (G : GoodW A B) {k : TokD} {out : List UInt8} (hk : okT k out) {p most : Nat} (hp : p ≤ t.length) (h : t.drop p = u) (hu : ∃ q, q ≠ [] ∧ u ++ q = tokB A B k) :
    blockS t A B most p out = .inl 2 := by
  obtain ⟨q, hq, hu⟩ := hu
  unfold tokB at hu
  rw [blockS, h]
  by_cases h0 : k.len = 0
  · rw [if_pos h0] at hu
    have hlt : k.lit.toNat < 256 := UInt8.toNat_lt k.lit
    obtain ⟨w, hw, hne⟩ := G.la k.lit.toNat (by omega)
    rw [getD_some hw] at hu
    rw [rdW_cut G.pa hw u [] q (by rw [List.nil_append]; exact hu) hq]
  · obtain ⟨h1, h2, h3, h4, h5⟩ := hk.resolve_left h0
    rw [if_neg h0] at hu
    obtain ⟨n, hn⟩ : ∃ n : Nat, k.len = n := ⟨k.len.toNat, by omega⟩
    obtain ⟨d, hd⟩ : ∃ d : Nat, k.dist = d := ⟨k.dist.toNat, by omega⟩
    rw [hn] at hu h1 h2
    rw [hd] at hu h3 h4 h5
    simp only [Int.toNat_natCast] at hu
    obtain ⟨p1, p2, p3⟩ := plF_lens (n := n) (by omega) (by omega)
    obtain ⟨q1, q2, q3⟩ := plF_dists (n := d) (by omega) (by omega)
    obtain ⟨w, hw, hne⟩ := G.la (257 + plF false n) (by omega)
    obtain ⟨v, hv, hne'⟩ := G.lb (plF true d) (by omega)
    rw [getD_some hw, getD_some hv] at hu
    have g1 : lensB[plF false n]? = some ((frF false n).1, (frF false n).2) := frF_get (far := false) (by show _ < 29; omega)
    have g2 : distsB[plF true d]? = some ((frF true d).1, (frF true d).2) := frF_get (far := true) (by show _ < 30; omega)
    rcases pre_split ⟨q, hu⟩ with ⟨q', hq', hu'⟩ | ⟨u1, rfl, hu1⟩
    · rw [rdW_cut G.pa hw u [] q' (by rw [List.nil_append]; exact hu') hq']
    rw [rdW_at G.pa hw hne]
    simp only
    rw [if_neg (by omega), if_neg (by omega), show 257 + plF false n - 257 = plF false n by omega]
    have e1 := drop_more h
    have l1 : p + w.length ≤ t.length := by have := drop_len h (.inr hp); rw [List.length_append] at this; omega
    rw [List.append_assoc] at hu
    have hu := List.append_cancel_left hu
    rcases pre_split ⟨q, hu⟩ with ⟨q', hq', hu'⟩ | ⟨u2, rfl, hu2⟩
    · have hl := congrArg List.length hu'
      have hq2 : q'.length ≠ 0 := fun h0 => hq' (List.eq_nil_of_length_eq_zero h0)
      rw [List.length_append, length_moreF] at hl
      rw [number_cut g1 l1 e1 (by omega)]
    rw [number_hit g1 l1 e1 p3]
    simp only
    rw [List.append_assoc] at hu
    have hu := List.append_cancel_left hu
    have e2 := drop_more e1
    rw [length_moreF] at e2
    have l2 : p + w.length + (frF false n).2 ≤ t.length := by have := drop_len e1 (.inr l1); rw [List.length_append, length_moreF] at this; omega
    rw [copyR, e2]
    rcases pre_split ⟨q, hu⟩ with ⟨q', hq', hu'⟩ | ⟨u3, rfl, hu3⟩
    · rw [rdW_cut G.pb hv u2 [] q' (by rw [List.nil_append]; exact hu') hq']
    rw [rdW_at G.pb hv hne']
    simp only
    rw [List.append_assoc] at hu
    have hu := List.append_cancel_left hu
    have e3 := drop_more e2
    have l3 : p + w.length + (frF false n).2 + v.length ≤ t.length := by have := drop_len e2 (.inr l2); rw [List.length_append] at this; omega
    have hl := congrArg List.length hu
    have hq2 : q.length ≠ 0 := fun h0 => hq (List.eq_nil_of_length_eq_zero h0)
    rw [List.length_append, length_moreF] at hl
    rw [number_cut g2 l3 e3 (by omega)]
theorem tok_pos {A B : List (List Nat)} (G : GoodW A B) {k : TokD} {out : List UInt8} (hk : okT k out) : 1 ≤ (tokB A B k).length := by
  unfold tokB
  have pos : ∀ w : List Nat, w ≠ [] → 1 ≤ w.length := fun w hw => by
    have : w.length ≠ 0 := fun h0 => hw (List.eq_nil_of_length_eq_zero h0)
    omega
  by_cases h0 : k.len = 0
  · rw [if_pos h0]
    have hlt : k.lit.toNat < 256 := UInt8.toNat_lt k.lit
    obtain ⟨w, hw, hne⟩ := G.la k.lit.toNat (by omega)
    rw [getD_some hw]; exact pos w hne
  · obtain ⟨h1, h2, h3, h4, h5⟩ := hk.resolve_left h0
    rw [if_neg h0]
    obtain ⟨p1, p2, p3⟩ := plF_lens (n := k.len.toNat) (by omega) (by omega)
    obtain ⟨w, hw, hne⟩ := G.la (257 + plF false k.len.toNat) (by omega)
    rw [getD_some hw, List.length_append]
    have := pos w hne
    omega
theorem told_cons (A B : List (List Nat)) (k : TokD) (l : List TokD) : toldB A B (k :: l) = tokB A B k ++ toldB A B l := by
  rw [toldB, toldB, List.flatMap_cons, List.append_assoc]
theorem block_told {t r : List Nat} {A B : List (List Nat)} (G : GoodW A B) {most : Nat} (a want : List UInt8) : ∀ (l : List TokD) (f p : Nat) (out : List UInt8), rightF l out = some want → p ≤ t.length → t.drop p = toldB A B l ++ r → l.length < f → (a ++ out).length ≤ most →
    blockF t A B most f p (a ++ out) = if most < (a ++ want).length then .inl 8 else .inr (p + (toldB A B l).length, a ++ want) := by
  intro l
  induction l with
  | nil =>
    intro f p out h hp ht hf hom
    obtain ⟨f, rfl⟩ : ∃ g, f = g + 1 := ⟨f - 1, by simp at hf; omega⟩
    rw [rightF] at h
    have h := Option.some.inj h
    subst h
    obtain ⟨w, hw, hne⟩ := G.la 256 (by omega)
    have e : toldB A B [] = w := by rw [toldB, getD_some hw]; rfl
    rw [e] at ht ⊢
    rw [blockF, blockS, ht, rdW_at G.pa hw hne]
    simp only
    rw [if_pos trivial, if_neg (by omega)]
  | cons k l ih =>
    intro f p out h hp ht hf hom
    obtain ⟨f, rfl⟩ : ∃ g, f = g + 1 := ⟨f - 1, by simp at hf; omega⟩
    obtain ⟨hk, hr⟩ := rightF_step h
    rw [told_cons, List.append_assoc] at ht
    rw [blockF, block_tok G (okT_fore hk) hp ht, putT_fore hk]
    have hml := rightF_mono l _ _ hr
    by_cases hm : most < (a ++ putT k out).length
    · rw [if_pos hm, if_pos (by rw [List.length_append] at *; omega)]
    · rw [if_neg hm]
      simp only
      have l1 : p + (tokB A B k).length ≤ t.length := by have := drop_len ht (.inr hp); rw [List.length_append] at this; omega
      rw [ih f (p + (tokB A B k).length) (putT k out) hr l1 (drop_more ht) (by simp at hf; omega) (by omega), told_cons, show (tokB A B k ++ toldB A B l).length = (tokB A B k).length + (toldB A B l).length from List.length_append, Nat.add_assoc]
theorem block_cut {t : List Nat} {A B : List (List Nat)} (G : GoodW A B) {most : Nat} (a want : List UInt8) (hw : (a ++ want).length ≤ most) : ∀ (l : List TokD) (f p : Nat) (out : List UInt8) (u : List Nat), rightF l out = some want → p ≤ t.length → t.drop p = u → (∃ q, q ≠ [] ∧ u ++ q = toldB A B l) → u.length < f →
    blockF t A B most f p (a ++ out) = .inl 2 := by
  intro l
  induction l with
  | nil =>
    intro f p out u h hp ht hu hf
    obtain ⟨f, rfl⟩ : ∃ g, f = g + 1 := ⟨f - 1, by omega⟩
    obtain ⟨q, hq, hu⟩ := hu
    obtain ⟨w, hw, hne⟩ := G.la 256 (by omega)
    have e : toldB A B [] = w := by rw [toldB, getD_some hw]; rfl
    rw [e] at hu
    rw [blockF, blockS, ht, rdW_cut G.pa hw u [] q (by rw [List.nil_append]; exact hu) hq]
  | cons k l ih =>
    intro f p out u h hp ht hu hf
    obtain ⟨f, rfl⟩ : ∃ g, f = g + 1 := ⟨f - 1, by omega⟩
    obtain ⟨hk, hr⟩ := rightF_step h
    obtain ⟨q, hq, hu⟩ := hu
    rw [told_cons] at hu
    rcases pre_split ⟨q, hu⟩ with ⟨q', hq', hu'⟩ | ⟨u1, rfl, hu1⟩
    · rw [blockF, tok_cut G (okT_fore hk) hp ht ⟨q', hq', hu'⟩]
    · have hml := rightF_mono l _ _ hr
      have htp := tok_pos G hk
      rw [blockF, block_tok G (okT_fore hk) hp ht, putT_fore hk, if_neg (by rw [List.length_append] at *; omega)]
      simp only
      have l1 : p + (tokB A B k).length ≤ t.length := by have := drop_len ht (.inr hp); rw [List.length_append] at this; omega
      rw [List.append_assoc] at hu
      rw [List.length_append] at hf
      exact ih f _ _ u1 hr l1 (drop_more ht) ⟨q, hq, List.append_cancel_left hu⟩ (by omega)
theorem told_len {A B : List (List Nat)} (G : GoodW A B) : ∀ (l : List TokD) (out want : List UInt8), rightF l out = some want → l.length < (toldB A B l).length := by
  intro l
  induction l with
  | nil =>
    intro out want h
    obtain ⟨w, hw, hne⟩ := G.la 256 (by omega)
    have e : toldB A B [] = w := by rw [toldB, getD_some hw]; rfl
    rw [e]
    have : w.length ≠ 0 := fun h0 => hne (List.eq_nil_of_length_eq_zero h0)
    simp; omega
  | cons k l ih =>
    intro out want h
    obtain ⟨hk, hr⟩ := rightF_step h
    have := ih _ _ hr
    have := tok_pos G hk
    rw [told_cons, List.length_append, List.length_cons]; omega
end Go.Proofs.YtddifndfppilkaaGreat
