/-
  Layer 6 (huff): a book's places and its words, as plain Lean; no program.
-/
import Derived.Test.YtddifndfppilkaaGreatHufN
namespace Go.Proofs.YtddifndfppilkaaGreat
open Go.RowKit Go.Mz
set_option linter.unusedVariables false
set_option linter.unusedSimpArgs false

theorem Nd.put_nx (d : Nd) (c c' x : Nat) (h : c ≤ 1) (h' : c' ≤ 1) : (d.put c x).nx c' = if c = c' then x else d.nx c' := by
  unfold Nd.put Nd.nx
  rcases (show c = 0 ∨ c = 1 by omega) with rfl | rfl <;> rcases (show c' = 0 ∨ c' = 1 by omega) with rfl | rfl <;> simp
theorem Nd.put_mean (d : Nd) (c x : Nat) : (d.put c x).mean = d.mean := by unfold Nd.put; split <;> rfl
theorem nd0_nx (c : Nat) : nd0.nx c = 0 := by unfold Nd.nx nd0; split <;> rfl

/-- P tells what was read up to each place; W are the words; each place begins one of V. -/
structure TrieP (N : List Nd) (W V : List (List Nat)) (P : Nat → List Nat) : Prop where
  root : P 0 = []
  step : ∀ (a : Nat) (d : Nd) (c : Nat), N[a]? = some d → c ≤ 1 → d.nx c ≠ 0 → P (d.nx c) = P a ++ [c]
  word : ∀ (a : Nat) (d : Nd), N[a]? = some d → 0 ≤ d.mean → ∃ i : Nat, d.mean = i ∧ W[i]? = some (P a) ∧ P a ≠ []
  pre : ∀ a : Nat, a < N.length → a ≠ 0 → ∃ w ∈ V, P a <+: w
  has : ∀ (i : Nat) (w : List Nat), W[i]? = some w → w ≠ [] → ∃ (a : Nat) (d : Nd), N[a]? = some d ∧ P a = w ∧ d.mean = i
  conn : ∀ a : Nat, a < N.length → a ≠ 0 → ∃ (b : Nat) (d : Nd) (c : Nat), N[b]? = some d ∧ c ≤ 1 ∧ d.nx c = a
def Trie (N : List Nd) (W : List (List Nat)) : Prop := NOk N ∧ ∃ P, TrieP N W W P

theorem TrieP.up {N : List Nd} {W V : List (List Nat)} {P : Nat → List Nat} (h : TrieP N W V P) {a : Nat} (ha : a < N.length) (h0 : a ≠ 0) : ∃ (b : Nat) (d : Nd) (c : Nat), N[b]? = some d ∧ c ≤ 1 ∧ d.nx c = a ∧ P a = P b ++ [c] := by
  obtain ⟨b, d, c, h1, h2, h3⟩ := h.conn a ha h0
  exact ⟨b, d, c, h1, h2, h3, by have := h.step b d c h1 h2 (by omega); rw [h3] at this; exact this⟩
theorem snoc_ne {a : List Nat} {c : Nat} : a ++ [c] ≠ [] := by simp
theorem TrieP.inj {N : List Nd} {W V : List (List Nat)} {P : Nat → List Nat} (h : TrieP N W V P) : ∀ (n a a' : Nat), (P a).length = n → a < N.length → a' < N.length → P a = P a' → a = a' := by
  intro n
  induction n with
  | zero =>
    intro a a' hn ha ha' he
    have z : ∀ x, x < N.length → (P x).length = 0 → x = 0 := fun x hx hl => by
      apply Classical.byContradiction
      intro h0
      obtain ⟨b, d, c, _, _, _, e⟩ := h.up hx h0
      rw [e] at hl; simp at hl
    rw [z a ha hn, z a' ha' (by rw [← he]; exact hn)]
  | succ n ih =>
    intro a a' hn ha ha' he
    have nz : ∀ x, (P x).length = n + 1 → x ≠ 0 := fun x hl h0 => by
      rw [h0, h.root] at hl; simp at hl
    obtain ⟨b, d, c, h1, h2, h3, e⟩ := h.up ha (nz a hn)
    obtain ⟨b', d', c', h1', h2', h3', e'⟩ := h.up ha' (nz a' (by rw [← he]; exact hn))
    rw [e, e'] at he
    have e1 := List.append_inj' he rfl
    have hc : c = c' := by simpa using e1.2
    have hb : b = b' := ih b b' (by rw [e] at hn; simpa using hn) (by obtain ⟨hx, _⟩ := List.getElem?_eq_some_iff.1 h1; exact hx) (by obtain ⟨hx, _⟩ := List.getElem?_eq_some_iff.1 h1'; exact hx) e1.1
    subst hb hc
    rw [h1] at h1'
    cases h1'
    rw [← h3, ← h3']
theorem TrieP.lt {N : List Nd} {a : Nat} {d : Nd} (h : N[a]? = some d) : a < N.length := by
  obtain ⟨hx, _⟩ := List.getElem?_eq_some_iff.1 h; exact hx
theorem TrieP.node {N : List Nd} {W V : List (List Nat)} {P : Nat → List Nat} (h : TrieP N W V P) : ∀ (n x : Nat) (s : List Nat), (P x).length = n → x < N.length → s <+: P x → ∃ a, a < N.length ∧ P a = s := by
  intro n
  induction n with
  | zero =>
    intro x s hn hx hs
    have : P x = [] := List.eq_nil_of_length_eq_zero hn
    rw [this] at hs
    exact ⟨x, hx, by rw [this]; exact (List.prefix_nil.1 hs).symm⟩
  | succ n ih =>
    intro x s hn hx hs
    by_cases e : s = P x
    · exact ⟨x, hx, e.symm⟩
    · obtain ⟨b, d, c, h1, h2, h3, hp⟩ := h.up hx (fun h0 => by rw [h0, h.root] at hn; simp at hn)
      rw [hp] at hs e
      have hs' : s <+: P b := by
        rcases List.prefix_concat_iff.1 hs with h | h
        · exact absurd h e
        · exact h
      exact ih b s (by rw [hp] at hn; simpa using hn) (TrieP.lt h1) hs'
theorem TrieP.child {N : List Nd} {W V : List (List Nat)} {P : Nat → List Nat} (h : TrieP N W V P) {a x c : Nat} {d : Nd} (ha : N[a]? = some d) (hx : x < N.length) (e : P x = P a ++ [c]) : d.nx c = x := by
  obtain ⟨b, d', c', h1, h2, h3, hp⟩ := h.up hx (fun h0 => by rw [h0, h.root] at e; exact snoc_ne e.symm)
  rw [hp] at e
  have e1 := List.append_inj' e rfl
  have hc : c' = c := by simpa using e1.2
  have hb : b = a := h.inj _ b a rfl (TrieP.lt h1) (TrieP.lt ha) e1.1
  subst hb hc
  rw [h1] at ha; cases ha
  exact h3

theorem Trie.one : Trie [nd0] [] := by
  refine ⟨NOk.one, fun _ => [], rfl, ?_, ?_, ?_, ?_, ?_⟩
  · intro a d c hd hc hx
    have : d = nd0 := by
      have := List.mem_of_getElem? hd
      simpa using this
    subst this
    exact absurd (nd0_nx c) hx
  · intro a d hd hm
    have : d = nd0 := by
      have := List.mem_of_getElem? hd
      simpa using this
    subst this
    simp [nd0] at hm
  · intro a ha h0; simp at ha; omega
  · intro i w hw; simp at hw
  · intro a ha h0; simp at ha; omega

theorem layS_trie {W : List (List Nat)} {w : List Nat} (hw : Bit w) (hne : w ≠ []) (pf : ∀ v ∈ W, v ≠ [] → ¬ v <+: w ∧ ¬ w <+: v) :
    ∀ (r : List Nat) (N : List Nd) (P : Nat → List Nat) (a : Nat) (s : List Nat), TrieP N W (W ++ [w]) P → NOk N → a < N.length → P a = s → s ++ r = w →
    ∃ N' P', layS W.length N a (tx r) = (N', 0) ∧ NOk N' ∧ TrieP N' (W ++ [w]) (W ++ [w]) P' := by
  intro r
  induction r with
  | nil =>
    intro N P a s h hN ha hs hr
    obtain ⟨d, hd⟩ : ∃ d, N[a]? = some d := ⟨N[a], List.getElem?_eq_getElem ha⟩
    rw [List.append_nil] at hr
    subst hr
    have hm : ¬ 0 ≤ d.mean := fun hm => by
      obtain ⟨i, _, hi, hi2⟩ := h.word a d hd hm
      rw [hs] at hi
      exact (pf s (List.mem_of_getElem? hi) hne).1 (List.prefix_refl _)
    have hx : ∀ c, c ≤ 1 → d.nx c = 0 := fun c hc => by
      apply Classical.byContradiction
      intro h0
      have e := h.step a d c hd hc h0
      obtain ⟨v, hv, hp⟩ := h.pre _ (hN.nx hd c) h0
      rw [e, hs] at hp
      rcases List.mem_append.1 hv with hv | hv
      · have : s <+: v := (List.prefix_append _ _).trans hp
        exact (pf v hv (fun h0 => by rw [h0] at hp; exact snoc_ne (List.prefix_nil.1 hp))).2 this
      · rw [List.mem_singleton] at hv
        subst hv
        have := hp.length_le
        simp at this; omega
    refine ⟨_, P, layS_nil_ok hd hm (hx 0 (by omega)) (hx 1 (by omega)), hN.mean hd _, ?_⟩
    have key : ∀ (x : Nat) (d' : Nd), (N.set a { d with mean := (W.length : Int) })[x]? = some d' → ∃ d0, N[x]? = some d0 ∧ (∀ c, d'.nx c = d0.nx c) ∧ (x ≠ a → d' = d0) ∧ (x = a → d'.mean = W.length) := by
      intro x d' hd'
      by_cases hxa : x = a
      · subst hxa
        rw [List.getElem?_set_self ha] at hd'
        cases hd'
        exact ⟨d, hd, fun c => rfl, fun h => absurd rfl h, fun _ => rfl⟩
      · rw [List.getElem?_set_ne (fun e => hxa e.symm)] at hd'
        exact ⟨d', hd', fun c => rfl, fun _ => rfl, fun e => absurd e hxa⟩
    refine ⟨h.root, ?_, ?_, ?_, ?_, ?_⟩
    · intro x d' c hd' hc hne'
      obtain ⟨d0, h0, hnx, _⟩ := key x d' hd'
      rw [hnx c] at hne' ⊢
      exact h.step x d0 c h0 hc hne'
    · intro x d' hd' hm'
      obtain ⟨d0, h0, hnx, h1, h2⟩ := key x d' hd'
      by_cases hxa : x = a
      · refine ⟨W.length, h2 hxa, ?_, ?_⟩
        · rw [hxa, hs, List.getElem?_append_right (Nat.le_refl _), Nat.sub_self]; rfl
        · rw [hxa, hs]; exact hne
      · rw [h1 hxa] at hm' ⊢
        obtain ⟨i, e1, e2, e3⟩ := h.word x d0 h0 hm'
        exact ⟨i, e1, by rw [List.getElem?_append_left (by obtain ⟨hx, _⟩ := List.getElem?_eq_some_iff.1 e2; exact hx)]; exact e2, e3⟩
    · intro x hx h0
      rw [List.length_set] at hx
      exact h.pre x hx h0
    · intro i v hv hvn
      by_cases hi : i < W.length
      · rw [List.getElem?_append_left hi] at hv
        obtain ⟨x, d0, h1, h2, h3⟩ := h.has i v hv hvn
        have hxa : x ≠ a := fun e => by
          subst e
          rw [h1] at hd; cases hd
          exact hm (by omega)
        exact ⟨x, d0, by rw [List.getElem?_set_ne (fun e => hxa e.symm)]; exact h1, h2, h3⟩
      · have hlt : i < (W ++ [s]).length := by obtain ⟨hx, _⟩ := List.getElem?_eq_some_iff.1 hv; exact hx
        have hi2 : i = W.length := by simp at hlt; omega
        subst hi2
        rw [List.getElem?_append_right (Nat.le_refl _), Nat.sub_self] at hv
        simp at hv
        subst hv
        exact ⟨a, _, List.getElem?_set_self ha, hs, rfl⟩
    · intro x hx h0
      rw [List.length_set] at hx
      obtain ⟨b, d0, c, h1, h2, h3⟩ := h.conn x hx h0
      by_cases hba : b = a
      · subst hba
        rw [h1] at hd; cases hd
        exact ⟨b, _, c, List.getElem?_set_self ha, h2, h3⟩
      · exact ⟨b, d0, c, by rw [List.getElem?_set_ne (fun e => hba e.symm)]; exact h1, h2, h3⟩
  | cons c r ih =>
    intro N P a s h hN ha hs hr
    obtain ⟨d, hd⟩ : ∃ d, N[a]? = some d := ⟨N[a], List.getElem?_eq_getElem ha⟩
    have hc : c ≤ 1 := hw c (by rw [← hr]; simp)
    have hch : dg c = 48 ∧ c = 0 ∨ dg c = 49 ∧ c = 1 := by
      rcases (show c = 0 ∨ c = 1 by omega) with rfl | rfl
      · exact .inl ⟨rfl, rfl⟩
      · exact .inr ⟨rfl, rfl⟩
    have hr' : (s ++ [c]) ++ r = w := by rw [← hr]; simp
    have hm : ¬ 0 ≤ d.mean := fun hm => by
      obtain ⟨i, _, hi, hi2⟩ := h.word a d hd hm
      rw [hs] at hi hi2
      exact (pf s (List.mem_of_getElem? hi) hi2).1 ⟨c :: r, hr⟩
    rw [tx_cons]
    by_cases hx : d.nx c = 0
    · rw [layS_cons_new hd hch hm hx]
      have hN1 := hN.more hd c
      have hlen : ((N ++ [nd0]).set a (d.put c N.length)).length = N.length + 1 := by simp
      have key : ∀ (x : Nat) (d' : Nd), ((N ++ [nd0]).set a (d.put c N.length))[x]? = some d' → (x = a ∧ d' = d.put c N.length) ∨ (x ≠ a ∧ x < N.length ∧ N[x]? = some d') ∨ (x = N.length ∧ d' = nd0) := by
        intro x d' hd'
        by_cases hxa : x = a
        · subst hxa
          rw [List.getElem?_set_self (by simp; omega)] at hd'
          cases hd'
          exact .inl ⟨rfl, rfl⟩
        · rw [List.getElem?_set_ne (fun e => hxa e.symm)] at hd'
          by_cases hxl : x < N.length
          · rw [List.getElem?_append_left hxl] at hd'
            exact .inr (.inl ⟨hxa, hxl, hd'⟩)
          · have hlt : x < (N ++ [nd0]).length := TrieP.lt hd'
            have hx2 : x = N.length := by simp at hlt; omega
            subst hx2
            rw [List.getElem?_append_right (Nat.le_refl _), Nat.sub_self] at hd'
            simp at hd'
            exact .inr (.inr ⟨rfl, hd'.symm⟩)
      refine ih _ (fun x => if x = N.length then s ++ [c] else P x) N.length (s ++ [c]) ⟨?_, ?_, ?_, ?_, ?_, ?_⟩ hN1 (by rw [hlen]; omega) (by simp) hr'
      · have : ¬ 0 = N.length := by have := hN.1; omega
        simp only [if_neg this]; exact h.root
      · intro x d' c' hd' hc' hne'
        rcases key x d' hd' with ⟨rfl, rfl⟩ | ⟨hxa, hxl, h0⟩ | ⟨rfl, rfl⟩
        · rw [Nd.put_nx d c c' _ hc hc'] at hne' ⊢
          by_cases hcc : c = c'
          · subst hcc
            simp only [if_true]
            rw [if_neg (by omega), hs]
          · rw [if_neg hcc] at hne' ⊢
            have := hN.nx hd c'
            simp only [if_neg (show ¬ d.nx c' = N.length by omega), if_neg (show ¬ x = N.length by omega)]
            exact h.step x d c' hd hc' hne'
        · have := hN.nx h0 c'
          simp only [if_neg (show ¬ d'.nx c' = N.length by omega), if_neg (show ¬ x = N.length by omega)]
          exact h.step x d' c' h0 hc' hne'
        · exact absurd (nd0_nx c') hne'
      · intro x d' hd' hm'
        rcases key x d' hd' with ⟨rfl, rfl⟩ | ⟨hxa, hxl, h0⟩ | ⟨rfl, rfl⟩
        · rw [Nd.put_mean] at hm'; exact absurd hm' hm
        · simp only [if_neg (show ¬ x = N.length by omega)]
          exact h.word x d' h0 hm'
        · simp [nd0] at hm'
      · intro x hx' h0
        rw [hlen] at hx'
        by_cases hxl : x = N.length
        · refine ⟨w, by simp, ?_⟩
          simp only [if_pos hxl]
          exact ⟨r, hr'⟩
        · simp only [if_neg hxl]
          exact h.pre x (by omega) h0
      · intro i v hv hvn
        obtain ⟨x, d0, h1, h2, h3⟩ := h.has i v hv hvn
        have hxa : x ≠ a := fun e => by
          subst e
          rw [h1] at hd; cases hd
          exact hm (by omega)
        have hxl := TrieP.lt h1
        refine ⟨x, d0, ?_, ?_, h3⟩
        · rw [List.getElem?_set_ne (fun e => hxa e.symm), List.getElem?_append_left hxl]; exact h1
        · simp only [if_neg (show ¬ x = N.length by omega)]; exact h2
      · intro x hx' h0
        rw [hlen] at hx'
        by_cases hxl : x = N.length
        · refine ⟨a, d.put c N.length, c, List.getElem?_set_self (by simp; omega), hc, ?_⟩
          rw [Nd.put_nx d c c _ hc hc, if_pos rfl, hxl]
        · obtain ⟨b, d0, c0, h1, h2, h3⟩ := h.conn x (by omega) h0
          by_cases hba : b = a
          · subst hba
            have e : d0 = d := by rw [h1] at hd; exact Option.some.inj hd
            subst e
            refine ⟨b, d0.put c N.length, c0, List.getElem?_set_self (by simp; omega), h2, ?_⟩
            rw [Nd.put_nx d0 c c0 _ hc h2, if_neg (fun e => h0 (by rw [← h3, ← e]; exact hx))]
            exact h3
          · exact ⟨b, d0, c0, by rw [List.getElem?_set_ne (fun e => hba e.symm), List.getElem?_append_left (TrieP.lt h1)]; exact h1, h2, h3⟩
    · rw [layS_cons_old hd hch hm hx]
      exact ih N P (d.nx c) (s ++ [c]) h hN (hN.nx hd c) (by rw [h.step a d c hd hc hx, hs]) hr'

theorem TrieP.wide {N : List Nd} {W V V' : List (List Nat)} {P : Nat → List Nat} (h : TrieP N W V P) (hv : ∀ v ∈ V, v ∈ V') : TrieP N W V' P :=
  ⟨h.root, h.step, h.word, fun a ha h0 => by obtain ⟨w, hw, hp⟩ := h.pre a ha h0; exact ⟨w, hv w hw, hp⟩, h.has, h.conn⟩
theorem lay_trie {N : List Nd} {W : List (List Nat)} {w : List Nat} (h : Trie N W) (hw : Bit w) (pf : ∀ v ∈ W, v ≠ [] → w ≠ [] → ¬ v <+: w ∧ ¬ w <+: v) :
    ∃ N', lay N (tx w) W.length = (N', 0) ∧ Trie N' (W ++ [w]) := by
  obtain ⟨hN, P, hP⟩ := h
  by_cases hne : w = []
  · subst hne
    refine ⟨N, by rw [lay, if_pos tx_nil], hN, P, hP.root, hP.step, ?_, ?_, ?_, hP.conn⟩
    · intro a d hd hm
      obtain ⟨i, e1, e2, e3⟩ := hP.word a d hd hm
      exact ⟨i, e1, by rw [List.getElem?_append_left (by obtain ⟨hx, _⟩ := List.getElem?_eq_some_iff.1 e2; exact hx)]; exact e2, e3⟩
    · intro a ha h0
      obtain ⟨v, hv, hp⟩ := hP.pre a ha h0
      exact ⟨v, List.mem_append_left _ hv, hp⟩
    · intro i v hv hvn
      by_cases hi : i < W.length
      · rw [List.getElem?_append_left hi] at hv
        exact hP.has i v hv hvn
      · rw [List.getElem?_append_right (by omega)] at hv
        have := List.mem_of_getElem? hv
        simp at this
        exact absurd this hvn
  · obtain ⟨N', P', h1, h2, h3⟩ := layS_trie hw hne (fun v hv hvn => pf v hv hvn hne) w N P 0 [] (hP.wide fun v hv => List.mem_append_left _ hv) hN hN.1 hP.root rfl
    refine ⟨N', ?_, h2, P', h3⟩
    rw [lay, if_neg (by intro e; exact hne (by simpa [tx] using e))]
    exact h1

/-- No word begins another one. -/
def PF (W : List (List Nat)) : Prop := ∀ (i k : Nat) (v w : List Nat), i ≠ k → W[i]? = some v → W[k]? = some w → v ≠ [] → ¬ v <+: w
theorem layAll_trie : ∀ (V W : List (List Nat)) (N : List Nd), Trie N W → (∀ w ∈ V, Bit w) → PF (W ++ V) → ∃ N', layAll N W.length (V.map tx) = (N', 0) ∧ Trie N' (W ++ V) := by
  intro V
  induction V with
  | nil => intro W N h hb pf; exact ⟨N, rfl, by rw [List.append_nil]; exact h⟩
  | cons w V ih =>
    intro W N h hb pf
    have hw : (W ++ w :: V)[W.length]? = some w := by rw [List.getElem?_append_right (Nat.le_refl _), Nat.sub_self]; rfl
    obtain ⟨N1, h1, h2⟩ := lay_trie h (hb w (by simp)) (fun v hv hvn hwn => by
      obtain ⟨i, hi, rfl⟩ := List.mem_iff_getElem.1 hv
      have hv' : (W ++ w :: V)[i]? = some W[i] := by rw [List.getElem?_append_left hi, List.getElem?_eq_getElem hi]
      exact ⟨pf i W.length _ _ (by omega) hv' hw hvn, pf W.length i _ _ (by omega) hw hv' hwn⟩)
    obtain ⟨N', h3, h4⟩ := ih (W ++ [w]) N1 h2 (fun x hx => hb x (by simp [hx])) (by rw [List.append_assoc]; exact pf)
    refine ⟨N', ?_, by rw [List.append_assoc] at h4; exact h4⟩
    rw [List.map_cons, layAll, h1, if_pos rfl]
    simp only
    rw [List.length_append, List.length_singleton] at h3
    exact h3
theorem book_trie {W : List (List Nat)} (hb : ∀ w ∈ W, Bit w) (pf : PF W) : ∃ N, layAll [nd0] 0 (W.map tx) = (N, 0) ∧ Trie N W := by
  have := layAll_trie W [] [nd0] Trie.one hb pf
  simpa using this
theorem Trie.means {N : List Nd} {W : List (List Nat)} (h : Trie N W) : MOk N W.length := by
  obtain ⟨hN, P, hP⟩ := h
  intro d hd
  obtain ⟨a, ha, rfl⟩ := List.mem_iff_getElem.1 hd
  by_cases hm : 0 ≤ N[a].mean
  · obtain ⟨i, e1, e2, _⟩ := hP.word a _ (List.getElem?_eq_getElem ha) hm
    obtain ⟨hx, _⟩ := List.getElem?_eq_some_iff.1 e2
    omega
  · omega

/-- What the next word is, of bits: how many bits that took; the word's place, or the error. s was read. -/
def rdW (W : List (List Nat)) : List Nat → List Nat → Nat × (Nat ⊕ Nat)
  | s, [] => (s.length, .inr 2)
  | s, c :: r =>
    match W.findIdx? (fun w => w == s ++ [c]) with
    | some i => (s.length + 1, .inl i)
    | none => if W.any (fun w => (s ++ [c]).isPrefixOf w) then rdW W (s ++ [c]) r else (s.length + 1, .inr 6)

theorem find_some {W : List (List Nat)} {v : List Nat} {i : Nat} (h : W[i]? = some v) (hu : ∀ j : Nat, W[j]? = some v → j = i) : W.findIdx? (fun w => w == v) = some i := by
  rw [List.findIdx?_eq_some_iff_getElem]
  obtain ⟨hi, e⟩ := List.getElem?_eq_some_iff.1 h
  refine ⟨hi, by rw [e]; simp, fun j hj => ?_⟩
  intro hc
  have : W[j] = v := by simpa using hc
  have := hu j (by rw [List.getElem?_eq_getElem (by omega), this])
  omega
theorem find_none {W : List (List Nat)} {v : List Nat} (h : ∀ j : Nat, W[j]? ≠ some v) : W.findIdx? (fun w => w == v) = none := by
  rw [List.findIdx?_eq_none_iff]
  intro x hx
  obtain ⟨j, hj, rfl⟩ := List.mem_iff_getElem.1 hx
  have := h j
  rw [List.getElem?_eq_getElem hj] at this
  simpa using this

theorem peek_one (bs : List UInt8) (low : Bool) (p : Nat) : peekV bs low p 1 = bitV bs low p := by
  rw [peekV]; cases low <;> simp [numV]
theorem readF_trie {N : List Nd} {W : List (List Nat)} {P : Nat → List Nat} (hN : NOk N) (h : TrieP N W W P) (bs : List UInt8) (low : Bool) :
    ∀ (r : List Nat) (f q a : Nat) (s : List Nat), r.length < f → q + r.length = 8 * bs.length → (bitsL low bs).drop q = r → a < N.length → P a = s →
      readF N bs low f q a = (q + (rdW W s r).1 - s.length, (rdW W s r).2) := by
  intro r
  induction r with
  | nil =>
    intro f q a s hf hq hr ha hs
    obtain ⟨f, rfl⟩ : ∃ g, f = g + 1 := ⟨f - 1, by omega⟩
    rw [readF, if_pos (by simp at hq; omega), rdW]
    simp
  | cons c r ih =>
    intro f q a s hf hq hr ha hs
    obtain ⟨f, rfl⟩ : ∃ g, f = g + 1 := ⟨f - 1, by omega⟩
    simp only [List.length_cons] at hf hq
    obtain ⟨d, hd⟩ : ∃ d, N[a]? = some d := ⟨N[a], List.getElem?_eq_getElem ha⟩
    have hgd : N.getD a nd0 = d := by rw [List.getD_eq_getElem?_getD, hd]; rfl
    have hc : bitV bs low q = c := by
      rw [← bitsL_getD, List.getD_eq_getElem?_getD]
      have := congrArg (fun l => l[0]?) hr
      simp at this
      rw [this]; rfl
    have hc1 : c ≤ 1 := by rw [← hc]; exact bitV_le _ _ _
    have hdr : (bitsL low bs).drop (q + 1) = r := by
      have := congrArg List.tail hr
      simpa using this
    rw [readF, if_neg (by omega), peek_one, hc, hgd]
    simp only
    by_cases hb0 : d.nx c = 0
    · have hno : ∀ v ∈ W, ¬ (s ++ [c]) <+: v := fun v hv hp => by
        obtain ⟨i, hi, rfl⟩ := List.mem_iff_getElem.1 hv
        have hvn : W[i] ≠ [] := fun h0 => by rw [h0] at hp; exact snoc_ne (List.prefix_nil.1 hp)
        obtain ⟨x, d0, h1, h2, _⟩ := h.has i _ (List.getElem?_eq_getElem hi) hvn
        obtain ⟨y, hy, hy2⟩ := h.node _ x (s ++ [c]) rfl (TrieP.lt h1) (by rw [h2]; exact hp)
        have := h.child hd hy (by rw [hy2, hs])
        rw [hb0] at this
        subst this
        rw [h.root] at hy2; exact snoc_ne hy2.symm
      have e1 : W.findIdx? (fun w => w == s ++ [c]) = none := find_none fun j hj => hno _ (List.mem_of_getElem? hj) (List.prefix_refl _)
      have e2 : W.any (fun w => (s ++ [c]).isPrefixOf w) = false := by
        rw [List.any_eq_false]
        intro v hv hc
        exact hno v hv (List.isPrefixOf_iff_prefix.1 hc)
      rw [if_pos hb0, rdW, e1, e2]
      simp
      omega
    · rw [if_neg hb0]
      have hP := h.step a d c hd hc1 hb0
      rw [hs] at hP
      have hbl := hN.nx hd c
      obtain ⟨d2, hd2⟩ : ∃ d2, N[d.nx c]? = some d2 := ⟨N[d.nx c], List.getElem?_eq_getElem hbl⟩
      have hgd2 : N.getD (d.nx c) nd0 = d2 := by rw [List.getD_eq_getElem?_getD, hd2]; rfl
      rw [hgd2]
      have huniq : ∀ j : Nat, W[j]? = some (s ++ [c]) → d2.mean = j := fun j hj => by
        obtain ⟨x, d0, h1, h2, h3⟩ := h.has j _ hj snoc_ne
        have := h.inj _ x (d.nx c) rfl (TrieP.lt h1) hbl (by rw [h2, hP])
        subst this
        rw [h1] at hd2; cases hd2; exact h3
      by_cases hm : 0 ≤ d2.mean
      · obtain ⟨i, e1, e2, _⟩ := h.word _ d2 hd2 hm
        rw [hP] at e2
        have e3 := find_some e2 (fun j hj => by have := huniq j hj; omega)
        rw [if_pos hm, rdW, e3]
        simp only [e1, Int.toNat_natCast]
        congr 1; omega
      · have e1 : W.findIdx? (fun w => w == s ++ [c]) = none := find_none fun j hj => hm (by rw [huniq j hj]; omega)
        have e2 : W.any (fun w => (s ++ [c]).isPrefixOf w) = true := by
          obtain ⟨v, hv, hp⟩ := h.pre _ hbl hb0
          rw [hP] at hp
          exact List.any_eq_true.2 ⟨v, hv, List.isPrefixOf_iff_prefix.2 hp⟩
        rw [if_neg hm, rdW, e1, e2]
        simp only [if_true]
        rw [ih f (q + 1) (d.nx c) (s ++ [c]) (by omega) (by omega) hdr hbl hP]
        simp only [List.length_append, List.length_singleton]
        congr 1; omega
theorem readN_trie {N : List Nd} {W : List (List Nat)} (h : Trie N W) (bs : List UInt8) (low : Bool) (p : Nat) (hp : p ≤ 8 * bs.length) :
    readN N bs low p = (p + (rdW W [] ((bitsL low bs).drop p)).1, (rdW W [] ((bitsL low bs).drop p)).2) := by
  obtain ⟨hN, P, hP⟩ := h
  have hl : ((bitsL low bs).drop p).length = 8 * bs.length - p := by simp
  rw [readN, readF_trie hN hP bs low ((bitsL low bs).drop p) _ p 0 [] (by omega) (by omega) rfl hN.1 hP.root]
  simp

theorem rdW_hit {W : List (List Nat)} (pf : PF W) {i : Nat} {w : List Nat} (hi : W[i]? = some w) :
    ∀ (r s t : List Nat), s ++ r = w → r ≠ [] → rdW W s (r ++ t) = (w.length, .inl i) := by
  intro r
  induction r with
  | nil => intro s t _ h; exact absurd rfl h
  | cons c r ih =>
    intro s t hs _
    have hs' : (s ++ [c]) ++ r = w := by rw [← hs]; simp
    rw [List.cons_append, rdW]
    by_cases hr : r = []
    · subst hr
      rw [List.append_nil] at hs'
      rw [hs', find_some hi (fun j hj => by
        apply Classical.byContradiction
        intro hji
        exact pf j i w w hji hj hi (by rw [← hs']; exact snoc_ne) (List.prefix_refl _))]
      simp only
      rw [← hs']; simp
    · have hno : ∀ j : Nat, W[j]? ≠ some (s ++ [c]) := fun j hj => by
        have hpre : (s ++ [c]) <+: w := ⟨r, hs'⟩
        by_cases hji : j = i
        · subst hji
          rw [hi] at hj
          have e : w = s ++ [c] := Option.some.inj hj
          rw [← hs'] at e
          have := congrArg List.length e
          simp at this
          exact hr this
        · exact pf j i _ _ hji hj hi snoc_ne hpre
      have e2 : W.any (fun w => (s ++ [c]).isPrefixOf w) = true := List.any_eq_true.2 ⟨w, List.mem_of_getElem? hi, List.isPrefixOf_iff_prefix.2 ⟨r, hs'⟩⟩
      rw [find_none hno, e2]
      simp only [if_true]
      exact ih (s ++ [c]) t hs' hr
theorem rdW_len (W : List (List Nat)) : ∀ (r s : List Nat), s.length ≤ (rdW W s r).1 ∧ (rdW W s r).1 ≤ s.length + r.length ∧ (r ≠ [] → s.length < (rdW W s r).1) ∧ (∀ i, (rdW W s r).2 = .inl i → s.length < (rdW W s r).1 ∧ i < W.length) ∧ ∀ e, (rdW W s r).2 = .inr e → e = 2 ∨ e = 6 := by
  intro r
  induction r with
  | nil => intro s; rw [rdW]; simp
  | cons c r ih =>
    intro s
    rw [rdW]
    cases hf : W.findIdx? (fun w => w == s ++ [c]) with
    | some i =>
      simp only
      have hi : i < W.length := by
        rw [List.findIdx?_eq_some_iff_getElem] at hf
        exact hf.1
      refine ⟨by omega, by simp only [List.length_cons]; omega, fun _ => by omega, fun j hj => ?_, fun e he => by cases he⟩
      cases hj; exact ⟨by omega, hi⟩
    | none =>
      simp only
      split
      · obtain ⟨h1, h2, h3, h4, h5⟩ := ih (s ++ [c])
        simp only [List.length_append, List.length_singleton] at h1 h2 h3 h4
        refine ⟨by omega, by simp only [List.length_cons]; omega, fun _ => by omega, fun j hj => ⟨by have := h4 j hj; omega, (h4 j hj).2⟩, h5⟩
      · refine ⟨by omega, by simp only [List.length_cons]; omega, fun _ => by omega, fun j hj => ?_, fun e he => ?_⟩
        · cases hj
        · cases he; exact .inr rfl
end Go.Proofs.YtddifndfppilkaaGreat
