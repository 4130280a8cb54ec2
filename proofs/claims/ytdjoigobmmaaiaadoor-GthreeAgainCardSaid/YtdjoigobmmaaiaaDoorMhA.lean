/-
  Layer 14 (mh): what is told of rows is read; plain Lean.
-/
import Derived.Test.YtdjoigobmmaaiaaDoorMhM
namespace Go.Proofs.YtdjoigobmmaaiaaDoor
open Go.RowKit Go.Mz
set_option linter.unusedVariables false
set_option linter.unusedSimpArgs false
set_option maxRecDepth 100000

/-- The first place, from i on, of another pixel. -/
theorem head_chF : ∀ (p : List Nat) (d : Bool) (i : Nat), Bit p → ∃ a, (chF (cl d) i p).headD (i + p.length) = a ∧ i ≤ a ∧ a ≤ i + p.length ∧ (∀ j, i ≤ j → j < a → p[j - i]? = some (cl d)) ∧ (a < i + p.length → p[a - i]? = some (cl (!d))) := by
  intro p
  induction p with
  | nil => intro d i _; exact ⟨i, rfl, Nat.le_refl _, Nat.le_refl _, fun j h1 h2 => by omega, fun h => by simp at h⟩
  | cons x r ih =>
    intro d i hb
    have hW : i + (x :: r).length = i + 1 + r.length := by simp; omega
    rw [chF]
    by_cases hx : x = cl d
    · rw [if_pos hx, hW]
      obtain ⟨a, h1, h2, h3, h4, h5⟩ := ih d (i + 1) fun y hy => hb y (by simp [hy])
      refine ⟨a, h1, by omega, h3, fun j hj1 hj2 => ?_, fun ha => ?_⟩
      · rcases Nat.eq_or_lt_of_le hj1 with rfl | hlt
        · simp [hx]
        · have := h4 j (by omega) hj2
          rw [show j - i = j - (i + 1) + 1 by omega, List.getElem?_cons_succ]; exact this
      · have := h5 ha
        rw [show a - i = a - (i + 1) + 1 by omega, List.getElem?_cons_succ]; exact this
    · rw [if_neg hx]
      refine ⟨i, rfl, Nat.le_refl _, by omega, fun j h1 h2 => by omega, fun _ => ?_⟩
      simp [cl_not (hb x (by simp)) hx]

def NextOk (p : List Nat) (i from' : Nat) (b : Bool) (W : Nat) (r : Nat × Nat) : Prop :=
  (∀ j, from' ≤ j → j < r.1 → p[j - i]? = some (cl b)) ∧ (∀ j, r.1 ≤ j → j < r.2 → p[j - i]? = some (cl (!b))) ∧ (r.1 < W → p[r.1 - i]? = some (cl (!b))) ∧ (r.2 < W → p[r.2 - i]? = some (cl b))
theorem next_at {p : List Nat} {i : Nat} {x : Nat} {r : List Nat} {from' W : Nat} {b : Bool} {q : Nat × Nat} (h : NextOk r (i + 1) from' b W q) (hf : i + 1 ≤ from') (h1 : i + 1 ≤ q.1) (h2 : q.1 ≤ q.2) : NextOk (x :: r) i from' b W q := by
  obtain ⟨a1, a2, a3, a4⟩ := h
  refine ⟨fun j hj1 hj2 => ?_, fun j hj1 hj2 => ?_, fun hh => ?_, fun hh => ?_⟩
  · rw [show j - i = j - (i + 1) + 1 by omega, List.getElem?_cons_succ]; exact a1 j hj1 hj2
  · rw [show j - i = j - (i + 1) + 1 by omega, List.getElem?_cons_succ]; exact a2 j hj1 hj2
  · rw [show q.1 - i = q.1 - (i + 1) + 1 by omega, List.getElem?_cons_succ]; exact a3 hh
  · rw [show q.2 - i = q.2 - (i + 1) + 1 by omega, List.getElem?_cons_succ]; exact a4 hh

theorem next_ahead : ∀ (p : List Nat) (b : Bool) (i : Nat) (at' : Int), Bit p → at' < i →
    i ≤ (nextF (!b) at' (!b) (i + p.length) (chF (cl b) i p)).1 ∧ (nextF (!b) at' (!b) (i + p.length) (chF (cl b) i p)).1 ≤ (nextF (!b) at' (!b) (i + p.length) (chF (cl b) i p)).2 ∧
    NextOk p i i b (i + p.length) (nextF (!b) at' (!b) (i + p.length) (chF (cl b) i p)) := by
  intro p
  induction p with
  | nil => intro b i at' _ h; refine ⟨Nat.le_refl _, Nat.le_refl _, fun j h1 h2 => ?_, fun j h1 h2 => ?_, fun h => ?_, fun h => ?_⟩ <;> simp [nextF, chF] at * <;> omega
  | cons x r ih =>
    intro b i at' hb h
    have hb2 : Bit r := fun y hy => hb y (by simp [hy])
    have hW : i + (x :: r).length = i + 1 + r.length := by simp; omega
    rw [chF]
    by_cases hx : x = cl b
    · rw [if_pos hx, hW]
      obtain ⟨h1, h2, h3⟩ := ih b (i + 1) at' hb2 (by omega)
      refine ⟨by omega, h2, ?_⟩
      obtain ⟨a1, a2, a3, a4⟩ := next_at (p := r) (x := x) h3 (Nat.le_refl _) h1 h2
      refine ⟨fun j hj1 hj2 => ?_, a2, a3, a4⟩
      rcases Nat.eq_or_lt_of_le hj1 with rfl | hlt
      · simp [hx]
      · exact a1 j hlt hj2
    · have hc := cl_not (hb x (by simp)) hx
      rw [if_neg hx, nextF, if_pos ⟨h, rfl⟩, hW, hc]
      obtain ⟨a, g1, g2, g3, g4, g5⟩ := head_chF r (!b) (i + 1) hb2
      rw [g1]
      refine ⟨Nat.le_refl _, by simp only; omega, fun j h1 h2 => ?_, fun j h1 h2 => ?_, fun _ => ?_, fun h2 => ?_⟩
      · simp only at h2; omega
      · simp only at h1 h2
        rcases Nat.eq_or_lt_of_le h1 with rfl | hlt
        · simp
        · rw [show j - i = j - (i + 1) + 1 by omega, List.getElem?_cons_succ]; exact g4 j (by omega) h2
      · simp
      · have := g5 h2
        simp only
        rw [show a - i = a - (i + 1) + 1 by omega, List.getElem?_cons_succ, this, Bool.not_not]
theorem next_on : ∀ (p : List Nat) (b d : Bool) (i a0 : Nat), Bit p → i ≤ a0 → p[a0 - i]? = some (cl b) →
    a0 < (nextF (!d) (a0 : Int) (!b) (i + p.length) (chF (cl d) i p)).1 ∧ (nextF (!d) (a0 : Int) (!b) (i + p.length) (chF (cl d) i p)).1 ≤ (nextF (!d) (a0 : Int) (!b) (i + p.length) (chF (cl d) i p)).2 ∧
    NextOk p i a0 b (i + p.length) (nextF (!d) (a0 : Int) (!b) (i + p.length) (chF (cl d) i p)) := by
  intro p
  induction p with
  | nil => intro b d i a0 _ _ h; simp at h
  | cons x r ih =>
    intro b d i a0 hb hi h
    have hb2 : Bit r := fun y hy => hb y (by simp [hy])
    have hW : i + (x :: r).length = i + 1 + r.length := by simp; omega
    -- behind the first pixel the colour is x
    have key : ∀ d', x = cl d' → nextF (!d) (a0 : Int) (!b) (i + (x :: r).length) (chF (cl d) i (x :: r)) = nextF (!d') (a0 : Int) (!b) (i + 1 + r.length) (chF (cl d') (i + 1) r) := by
      intro d' hd'
      rw [chF, hW]
      by_cases hx : x = cl d
      · have : d' = d := by
          rw [hx] at hd'
          cases d <;> cases d' <;> simp [cl] at hd' ⊢
        subst this
        rw [if_pos hx]
      · have hc := cl_not (hb x (by simp)) hx
        have : d' = !d := by
          rw [hc] at hd'
          cases d <;> cases d' <;> simp [cl] at hd' ⊢
        subst this
        rw [if_neg hx, nextF, if_neg (by rintro ⟨h1, _⟩; omega), hc]
    obtain ⟨d', hd'⟩ : ∃ d', x = cl d' := by
      have := hb x (by simp)
      rcases (show x = 0 ∨ x = 1 by omega) with rfl | rfl
      · exact ⟨false, rfl⟩
      · exact ⟨true, rfl⟩
    rw [key d' hd', hW]
    rcases Nat.eq_or_lt_of_le hi with rfl | hlt
    · have hxb : x = cl b := by simpa using h
      have hdb : d' = b := by
        rw [hxb] at hd'
        cases b <;> cases d' <;> simp [cl] at hd' ⊢
      subst hdb
      obtain ⟨h1, h2, h3⟩ := next_ahead r d' (i + 1) (i : Int) hb2 (by omega)
      refine ⟨by omega, h2, ?_⟩
      obtain ⟨a1, a2, a3, a4⟩ := next_at (p := r) (x := x) h3 (Nat.le_refl _) h1 h2
      refine ⟨fun j hj1 hj2 => ?_, a2, a3, a4⟩
      rcases Nat.eq_or_lt_of_le hj1 with rfl | hlt
      · simp [hxb]
      · exact a1 j hlt hj2
    · rw [show a0 - i = a0 - (i + 1) + 1 by omega, List.getElem?_cons_succ] at h
      obtain ⟨h1, h2, h3⟩ := ih b d' (i + 1) a0 hb2 (by omega) h
      exact ⟨h1, h2, next_at (p := r) h3 (by omega) (by omega) h2⟩
/-- The writer's and the reader's place in a row of pixels. -/
def AtP (P : List Nat) (at' : Int) (b : Bool) : Prop := (at' = -1 ∧ b = false) ∨ ∃ a : Nat, at' = a ∧ a ≤ P.length ∧ (a < P.length → P[a]? = some (cl b))
theorem next_row {P : List Nat} (hb : Bit P) {at' : Int} {b : Bool} (h : AtP P at' b) (hlt : at' < P.length) :
    at' < ((nextF true at' (!b) P.length (chg P)).1 : Int) ∧ (nextF true at' (!b) P.length (chg P)).1 ≤ (nextF true at' (!b) P.length (chg P)).2 ∧ NextOk P 0 (max at' 0).toNat b P.length (nextF true at' (!b) P.length (chg P)) := by
  rcases h with ⟨rfl, rfl⟩ | ⟨a, rfl, h1, h2⟩
  · have := next_ahead P false 0 (-1) hb (by decide)
    rw [Nat.zero_add] at this
    obtain ⟨g1, g2, g3⟩ := this
    exact ⟨by show (-1 : Int) < _; omega, g2, g3⟩
  · have := next_on P b false 0 a hb (Nat.zero_le _) (h2 (by omega))
    rw [Nat.zero_add] at this
    obtain ⟨g1, g2, g3⟩ := this
    refine ⟨by show (a : Int) < _; exact Int.ofNat_lt.2 g1, g2, ?_⟩
    rw [show (max (a : Int) 0).toNat = a by omega]
    exact g3
theorem take_run {P : List Nat} {n a c : Nat} (h1 : n ≤ a) (h2 : a ≤ P.length) (h : ∀ j, n ≤ j → j < a → P[j]? = some c) : P.take n ++ List.replicate (a - n) c = P.take a := by
  apply List.ext_getElem?
  intro j
  by_cases hj : j < n
  · rw [List.getElem?_append_left (by rw [List.length_take]; omega), List.getElem?_take, List.getElem?_take, if_pos hj, if_pos (by omega)]
  · rw [List.getElem?_append_right (by rw [List.length_take]; omega), List.length_take, Nat.min_eq_left (by omega), List.getElem?_replicate, List.getElem?_take]
    by_cases hja : j < a
    · rw [if_pos (by omega), if_pos hja, h j (by omega) hja]
    · rw [if_neg (by omega), if_neg hja]
theorem rdW_at {W : List (List Nat)} (pf : PF W) {i : Nat} {w r : List Nat} (hi : W[i]? = some w) (hw : w ≠ []) : rdW W [] (w ++ r) = (w.length, .inl i) := rdW_hit pf hi w [] r rfl hw
theorem drop_more {t a b : List Nat} {p : Nat} (h : t.drop p = a ++ b) : t.drop (p + a.length) = b := by
  rw [← List.drop_drop, h, List.drop_left]
theorem getD_of {W : List (List Nat)} {i : Nat} {w : List Nat} (h : W[i]? = some w) : W.getD i [] = w := by
  rw [List.getD_eq_getElem?_getD, h]; rfl
/-- What is told is read. -/
theorem read_told (black : Bool) {t r : List Nat} (most : Int) : ∀ (m : Nat) (f p n : Nat), m ≤ 1000000 → (placesL m).length ≤ f → t.drop p = kbits (faxW black) (placesL m) ++ r → ((n + m : Nat) : Int) ≤ most →
    readFx (faxW black) t most f p n = (p + (kbits (faxW black) (placesL m)).length, .inl (n + m)) := by
  intro m
  induction m using Nat.strongRecOn with
  | ind m ih =>
    intro f p n hm hf ht hle
    by_cases hg : 2560 ≤ m
    · rw [placesL_great hg] at hf ht ⊢
      rw [kbits_cons] at ht ⊢
      obtain ⟨v, hv, hvn⟩ := ne_fax black (i := 103) (by omega)
      rw [getD_of hv, List.append_assoc] at ht
      rw [getD_of hv]
      obtain ⟨f, rfl⟩ : ∃ g, f = g + 1 := ⟨f - 1, by simp at hf; omega⟩
      rw [readFx, ht, rdW_at (pf_fax black) hv hvn]
      simp only
      rw [show faxL 103 = 2560 from rfl, if_neg (by omega), if_neg (by omega), ih (m - 2560) (by omega) f (p + v.length) (n + 2560) (by omega) (by simp at hf; omega) (drop_more ht) (by omega), List.length_append, Nat.add_assoc, show n + 2560 + (m - 2560) = n + m by omega]
    · by_cases h64 : 64 ≤ m
      · rw [placesL_more (by omega) h64] at hf ht ⊢
        rw [kbits_cons] at ht ⊢
        obtain ⟨v, hv, hvn⟩ := ne_fax black (i := 63 + m / 64) (by omega)
        rw [getD_of hv, List.append_assoc] at ht
        rw [getD_of hv]
        obtain ⟨f, rfl⟩ : ∃ g, f = g + 1 := ⟨f - 1, by simp at hf; omega⟩
        have hfl : faxL (63 + m / 64) = 64 * (m / 64) := by rw [faxL, if_neg (by omega)]; omega
        rw [readFx, ht, rdW_at (pf_fax black) hv hvn]
        simp only
        rw [hfl, if_neg (by omega), if_neg (by omega), ih (m % 64) (by omega) f (p + v.length) (n + 64 * (m / 64)) (by omega) (by simp at hf; omega) (drop_more ht) (by omega), List.length_append, Nat.add_assoc, show n + 64 * (m / 64) + m % 64 = n + m by omega]
      · rw [placesL_less (by omega)] at hf ht ⊢
        rw [kbits_cons] at ht ⊢
        obtain ⟨v, hv, hvn⟩ := ne_fax black (i := m) (by omega)
        have hk : kbits (faxW black) [] = [] := rfl
        rw [getD_of hv, hk, List.append_nil] at ht ⊢
        obtain ⟨f, rfl⟩ : ∃ g, f = g + 1 := ⟨f - 1, by simp at hf; omega⟩
        have hfl : faxL m = m := by rw [faxL, if_pos (by omega)]
        rw [readFx, ht, rdW_at (pf_fax black) hv hvn]
        simp only
        rw [hfl, if_neg (by omega), if_pos (by omega)]
theorem kbits_ge (black : Bool) : ∀ K : List Nat, (∀ i ∈ K, i < 104) → K.length ≤ (kbits (faxW black) K).length ∧ (kbits (faxW black) K).length ≤ 13 * K.length := by
  intro K
  induction K with
  | nil => intro _; simp [kbits]
  | cons i K ih =>
    intro h
    have h1 := ih fun j hj => h j (by simp [hj])
    obtain ⟨v, hv, hvn⟩ := ne_fax black (i := i) (h i (by simp))
    have hl := le_fax black v (List.mem_of_getElem? hv)
    rw [kbits_cons, getD_of hv, List.length_append, List.length_cons]; omega
theorem readL_told (black : Bool) {t r : List Nat} (most : Int) {m p : Nat} (hm : m ≤ 1000000) (hp : p ≤ t.length) (ht : t.drop p = tellB black m ++ r) (hle : (m : Int) ≤ most) :
    readL black t most p = (p + (tellB black m).length, .inl m) := by
  have hg := (kbits_ge black (placesL m) (fun i hi => placesL_lt i hi)).1
  have hl := congrArg List.length ht
  rw [List.length_drop, List.length_append] at hl
  have h2 : (tellB black m).length = (kbits (faxW black) (placesL m)).length := rfl
  have := read_told black (t := t) (r := r) most m (t.length + 1 - p) p 0 hm (by omega) ht (by omega)
  rw [readL, this, Nat.zero_add]; rfl
theorem tell_len (black : Bool) {n : Nat} (hn : n ≤ 32768) : (tellB black n).length ≤ 300 := by
  have h1 := (kbits_ge black (placesL n) (fun i hi => placesL_lt i hi)).2
  have h3 : (placesL n).length ≤ 20 := by
    rw [placesL]
    simp only [List.length_append, List.length_replicate, List.length_singleton]
    split
    · simp; omega
    · simp; omega
  rw [tellB]
  omega

theorem readMd_told {t r : List Nat} {p i : Nat} (hi : i < 9) (ht : t.drop p = modW.getD i [] ++ r) : readMd t p = (p + (modW.getD i []).length, .inl ((i : Int) - 3)) := by
  obtain ⟨v, hv, hvn⟩ := ne_mod (i := i) (by omega)
  rw [getD_of hv] at ht ⊢
  rw [readMd, ht, rdW_at pf_mod hv hvn]
  simp only
  rw [if_neg (by omega)]
theorem chg_inc (p : List Nat) : (chg p).Pairwise (· < ·) := chF_inc p 0 0
theorem ag_told {P T t r : List Nat} (hP : Bit P) (hT : T.length = P.length) (hW : P.length ≤ 32768) : ∀ (f g p : Nat) (at' : Int) (b : Bool), AtP P at' b → (P.length : Int) - at' ≤ f → f < g → p ≤ t.length →
    t.drop p = agB (chg P) (chg T) P.length f at' b ++ r → rdAg t (chg T) P.length g p (P.take (max at' 0).toNat) b at' = (p + (agB (chg P) (chg T) P.length f at' b).length, .inl P) := by
  intro f
  induction f with
  | zero =>
    intro g p at' b hat hf hg hp ht
    obtain ⟨g, rfl⟩ : ∃ k, g = k + 1 := ⟨g - 1, by omega⟩
    rw [rdAg, if_neg (by omega), agB]
    rw [List.take_of_length_le (by omega)]; rfl
  | succ f ih =>
    intro g p at' b hat hf hg hp ht
    obtain ⟨g, rfl⟩ : ∃ k, g = k + 1 := ⟨g - 1, by omega⟩
    rw [rdAg]
    rw [agB] at ht ⊢
    by_cases hlt : at' < (P.length : Int)
    · rw [if_pos hlt] at ht ⊢
      rw [if_pos hlt]
      simp only at ht ⊢
      obtain ⟨n1, n2, n3, n4, n5, n6⟩ := next_row hP hat hlt
      obtain ⟨c1, c2, c3, c4⟩ := nextF_bd (at' := at') (toB := !b) (width := P.length) (chg T) true (chg_inc T) (fun x hx => by rw [← hT]; exact chg_lt T x hx) hlt
      have nb := nextF_bd (at' := at') (toB := !b) (width := P.length) (chg P) true (chg_inc P) (chg_lt P) hlt
      obtain ⟨_, _, a3, a4⟩ := nb
      rw [stepAg]
      generalize nextF true at' (!b) P.length (chg P) = a at *
      generalize nextF true at' (!b) P.length (chg T) = c at *
      have hat0 : -1 ≤ at' := by rcases hat with ⟨rfl, _⟩ | ⟨k, rfl, _⟩ <;> omega
      obtain ⟨q, hq⟩ : ∃ q : Nat, q = (max at' 0).toNat := ⟨_, rfl⟩
      rw [← hq] at n3 ht ⊢
      have hqW : q ≤ P.length := by omega
      have hql : (P.take q).length = q := by rw [List.length_take]; omega
      by_cases h1 : c.2 < a.1
      · rw [if_pos h1] at ht ⊢
        rw [List.append_assoc] at ht
        rw [readMd_told (by omega) ht]
        simp only
        rw [if_pos (by decide), hql]
        simp only
        have e1 : P.take q ++ runP (c.2 - q) b = P.take c.2 := take_run (by omega) (by omega) (fun j h1 h2 => n3 j h1 (by omega))
        rw [e1]
        have hat2 : AtP P (c.2 : Int) b := .inr ⟨c.2, rfl, by omega, fun h => n3 c.2 (by omega) h1⟩
        have hd := drop_more ht
        have hp2 : p + (modW.getD 8 []).length ≤ t.length := by
          have := congrArg List.length ht
          rw [List.length_drop, List.length_append] at this
          omega
        have := ih g (p + (modW.getD 8 []).length) (c.2 : Int) b hat2 (by omega) (by omega) hp2 hd
        rw [show (max (c.2 : Int) 0).toNat = c.2 by omega] at this
        rw [this, List.length_append, Nat.add_assoc]
      · rw [if_neg h1] at ht ⊢
        by_cases h2 : a.1 ≤ c.1 + 3 ∧ c.1 ≤ a.1 + 3
        · rw [if_pos h2] at ht ⊢
          rw [List.append_assoc] at ht
          rw [readMd_told (by omega) ht]
          simp only
          rw [if_neg (by omega), if_neg (by omega), if_neg (by omega), hql]
          simp only
          have ex : (c.1 : Int) + (((a.1 + 3 - c.1 : Nat) : Int) - 3) = (a.1 : Int) := by omega
          rw [ex, Int.toNat_natCast]
          have e1 : P.take q ++ runP (a.1 - q) b = P.take a.1 := take_run (by omega) (by omega) n3
          rw [e1]
          have hat2 : AtP P (a.1 : Int) (!b) := .inr ⟨a.1, rfl, by omega, n5⟩
          have hd := drop_more ht
          have hp2 : p + (modW.getD (a.1 + 3 - c.1) []).length ≤ t.length := by
            have := congrArg List.length ht
            rw [List.length_drop, List.length_append] at this
            omega
          have := ih g (p + (modW.getD (a.1 + 3 - c.1) []).length) (a.1 : Int) (!b) hat2 (by omega) (by omega) hp2 hd
          rw [show (max (a.1 : Int) 0).toNat = a.1 by omega] at this
          rw [this, List.length_append, Nat.add_assoc]
        · rw [if_neg h2] at ht ⊢
          simp only [List.append_assoc] at ht
          rw [readMd_told (by omega) ht]
          simp only
          rw [if_neg (by decide), if_pos (by decide)]
          have hd := drop_more ht
          have hl := congrArg List.length ht
          rw [List.length_drop, List.length_append, List.length_append, List.length_append] at hl
          have hR := readL_told b (t := t) (((P.length - q : Nat)) : Int) (m := a.1 - q) (p := p + (modW.getD 7 []).length) (by omega) (by omega) hd (by omega)
          have hd2 := drop_more hd
          have hR2 := readL_told (!b) (t := t) (((P.length - (q + (a.1 - q)) : Nat)) : Int) (m := a.2 - a.1) (p := p + (modW.getD 7 []).length + (tellB b (a.1 - q)).length) (by omega) (by omega) hd2 (by omega)
          have hd3 := drop_more hd2
          have e1 : P.take q ++ runP (a.1 - q) b = P.take a.1 := take_run (by omega) (by omega) n3
          have e2 : P.take a.1 ++ runP (a.2 - a.1) (!b) = P.take a.2 := take_run (by omega) (by omega) n4
          rw [two, hql, hR]
          simp only
          rw [hR2]
          simp only
          rw [e1, e2]
          have hal : (P.take a.2).length = a.2 := by rw [List.length_take]; omega
          rw [hal]
          have hat2 : AtP P (a.2 : Int) b := .inr ⟨a.2, rfl, by omega, n6⟩
          have := ih g (p + (modW.getD 7 []).length + (tellB b (a.1 - q)).length + (tellB (!b) (a.2 - a.1)).length) (a.2 : Int) b hat2 (by omega) (by omega) (by omega) hd3
          rw [show (max (a.2 : Int) 0).toNat = a.2 by omega] at this
          rw [this]
          simp only [List.length_append, Nat.add_assoc]
    · rw [if_neg hlt] at ht ⊢
      rw [if_neg hlt, List.take_of_length_le (by omega)]; rfl

/-- Pixels of lengths. -/
def runsP (b : Bool) : List Nat → List Nat
  | [] => []
  | n :: r => runP n b ++ runsP (!b) r
theorem runs_lens : ∀ (p : List Nat) (b : Bool) (was i : Nat), Bit p → was ≤ i → runsP b (lensF was (chF (cl b) i p) (i + p.length)) = runP (i - was) b ++ p := by
  intro p
  induction p with
  | nil => intro b was i _ _; simp [chF, lensF, runsP]
  | cons x r ih =>
    intro b was i hb hw
    have h1 : i + (x :: r).length = i + 1 + r.length := by simp; omega
    rw [h1]
    by_cases hx : x = cl b
    · rw [chF, if_pos hx, ih b was (i + 1) (fun y hy => hb y (by simp [hy])) (by omega), show i + 1 - was = i - was + 1 by omega, runP, List.replicate_succ', hx, List.append_assoc]; rfl
    · have hc := cl_not (hb x (by simp)) hx
      rw [chF, if_neg hx, lensF, runsP, hc, ih (!b) i (i + 1) (fun y hy => hb y (by simp [hy])) (by omega), show i + 1 - i = 1 by omega]
      rfl
theorem lens_of (l : List Nat) (width : Nat) : ∀ (was : Nat), l.Pairwise (· < ·) → (∀ x ∈ l, was ≤ x ∧ x < width) → was ≤ width → (lensF was l width).sum = width - was ∧ (∀ x ∈ (lensF was l width).tail, 0 < x) ∧ lensF was l width ≠ [] := by
  induction l with
  | nil => intro was _ _ _; simp [lensF]
  | cons x r ih =>
    intro was hp hb hw
    have hx := hb x (by simp)
    obtain ⟨hx2, hp2⟩ := List.pairwise_cons.1 hp
    obtain ⟨h1, h2, h3⟩ := ih x hp2 (fun y hy => ⟨Nat.le_of_lt (hx2 y hy), (hb y (by simp [hy])).2⟩) (by omega)
    refine ⟨by simp [lensF, h1]; omega, fun y hy => ?_, by simp [lensF]⟩
    simp only [lensF, List.tail_cons] at hy
    cases r with
    | nil => simp [lensF] at hy; omega
    | cons z r =>
      rw [lensF] at hy
      rcases List.mem_cons.1 hy with rfl | hy
      · have := hx2 z (by simp); omega
      · exact h2 y (by rw [lensF]; exact hy)
theorem rowRead_told {t : List Nat} {width : Nat} (hW : width ≤ 32768) : ∀ (L : List Nat) (g p : Nat) (px : List Nat) (b : Bool) (r : List Nat), L ≠ [] → (∀ x ∈ L.tail, 0 < x) → px.length + L.sum = width → L.length ≤ g → p ≤ t.length →
    t.drop p = rowB b L ++ r → rdRow t width g p px b = (p + (rowB b L).length, .inl (px ++ runsP b L)) := by
  intro L
  induction L with
  | nil => intro g p px b r h; exact absurd rfl h
  | cons n L ih =>
    intro g p px b r _ hpos hsum hg hp ht
    obtain ⟨g, rfl⟩ : ∃ k, g = k + 1 := ⟨g - 1, by simp at hg; omega⟩
    rw [rowB, List.append_assoc] at ht
    have hs : px.length + (n + L.sum) = width := by simpa using hsum
    have hR := readL_told b (t := t) ((width - px.length : Nat) : Int) (m := n) (p := p) (by omega) hp ht (by omega)
    have hd := drop_more ht
    have hl := congrArg List.length ht
    rw [List.length_drop, List.length_append] at hl
    rw [rdRow, hR]
    simp only
    cases L with
    | nil =>
      simp at hs
      rw [if_pos hs]
      simp [rowB, runsP]
    | cons m L =>
      have hm := hpos m (by simp)
      simp only [List.sum_cons] at hs
      rw [if_neg (by omega), ih g (p + (tellB b n).length) (px ++ runP n b) (!b) r (by simp) (fun x hx => hpos x (by simp at hx ⊢; exact .inr hx)) (by simp; omega) (by simp at hg ⊢; omega) (by omega) hd]
      rw [show rowB b (n :: m :: L) = tellB b n ++ rowB (!b) (m :: L) from rfl, show runsP b (n :: m :: L) = runP n b ++ runsP (!b) (m :: L) from rfl, List.length_append, List.append_assoc, Nat.add_assoc]
#print axioms ag_told
#print axioms rowRead_told
#print axioms next_row
end Go.Proofs.YtdjoigobmmaaiaaDoor
