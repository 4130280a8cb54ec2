/-
  Layer 5: what an encoder writes is what a decoder reads; plain Lean, no program.
-/
import Derived.Test.YtpjonjiofaaccaaLzwP
namespace Go.Mz
open Go.RowKit
set_option linter.unusedVariables false
set_option linter.unusedSimpArgs false

def widN (q : Nat) : Nat := if q < 512 then 9 else if q < 1024 then 10 else if q < 2048 then 11 else 12
theorem widthL_widN (k : Nat) : widthL k false = widN (k + 1) := rfl
theorem lt_widN {q k : Nat} (h : q < k) (hk : k ≤ 4096) : q < 2 ^ widN k := by
  unfold widN
  split
  · simp; omega
  · split
    · simp; omega
    · split
      · simp; omega
      · simp; omega
theorem widN_bd (k : Nat) : 9 ≤ widN k ∧ widN k ≤ 12 := by
  unfold widN; split
  · omega
  · split
    · omega
    · split <;> omega

abbrev Pairs := Nat → Nat → Option Nat
def noPairs : Pairs := fun _ _ => none
def putPair (M : Pairs) (p c r : Nat) : Pairs := fun p' c' => if p' = p ∧ c' = c then some r else M p' c'

/-- What is written from here on: the texts of codes, the pairs that have one, the code at hand, the bytes to come. -/
def encF : List Txt → Pairs → Option Nat → Txt → List Nat
  | EL, _, none, [] => wordB 257 (widN EL.length)
  | EL, _, some q, [] => wordB q (widN EL.length) ++ wordB 257 (widN (EL.length + 1))
  | EL, M, none, c :: cs => encF EL M (some c.toNat) cs
  | EL, M, some q, c :: cs =>
    match M q c.toNat with
    | some r => encF EL M (some r) cs
    | none =>
      if EL.length + 1 = 4094 then wordB q (widN EL.length) ++ (wordB 256 12 ++ encF start0 noPairs (some c.toNat) cs)
      else wordB q (widN EL.length) ++ encF (EL ++ [EL.getD q [] ++ [c]]) (putPair M q c.toNat EL.length) (some c.toNat) cs

def encB (b : Txt) : List Nat := wordB 256 9 ++ encF start0 noPairs none b

/-- Texts of single bytes stand first; a pair's code stands for its text. -/
structure EOk (EL : List Txt) (M : Pairs) : Prop where
  l1 : 258 ≤ EL.length
  l2 : EL.length < 4094
  one : ∀ c : UInt8, EL[c.toNat]? = some [c]
  ne : ∀ (i : Nat) (t : Txt), EL[i]? = some t → t ≠ []
  pr : ∀ (p : Nat) (c : UInt8) (r : Nat), M p c.toNat = some r → 258 ≤ r ∧ ∃ u, EL[p]? = some u ∧ EL[r]? = some (u ++ [c])

theorem EOk.start : EOk start0 noPairs :=
  ⟨by rw [length_start0]; omega, by rw [length_start0]; omega, start0_get, fun i t h => (start0_lt i t h).1, fun p c r h => by cases h⟩
theorem EOk.add {EL : List Txt} {M : Pairs} (h : EOk EL M) {q : Nat} {u : Txt} (hq : EL[q]? = some u) (c : UInt8) (h2 : EL.length + 1 < 4094) : EOk (EL ++ [u ++ [c]]) (putPair M q c.toNat EL.length) := by
  have hlt : ∀ {i : Nat} {t : Txt}, EL[i]? = some t → (EL ++ [u ++ [c]])[i]? = some t := fun {i t} hi => by
    rw [List.getElem?_append_left (List.getElem?_eq_some_iff.1 hi).1]; exact hi
  refine ⟨by simp; have := h.l1; omega, by simp; omega, fun d => hlt (h.one d), fun i t hi => ?_, fun p d r hr => ?_⟩
  · by_cases hil : i < EL.length
    · rw [List.getElem?_append_left hil] at hi
      exact h.ne i t hi
    · rw [List.getElem?_append_right (by omega)] at hi
      have : t ∈ [u ++ [c]] := List.mem_of_getElem? hi
      simp at this
      subst this
      simp
  · unfold putPair at hr
    split at hr
    · rename_i e
      obtain ⟨rfl, e2⟩ := e
      cases hr
      have : d = c := UInt8.toNat_inj.1 e2
      subst this
      exact ⟨h.l1, u, hlt hq, by simp⟩
    · obtain ⟨g1, v, g2, g3⟩ := h.pr p d r hr
      exact ⟨g1, v, hlt g2, hlt g3⟩

/-- So many codes, their texts, and where they lead. -/
inductive Run (bits : List Nat) : LS → List Txt → LS → Prop
  | nil (s : LS) : Run bits s [] s
  | cons {s s1 s2 : LS} {t : Txt} {ts : List Txt} (h : codeS bits false s = (s1, t, false, 0)) (hm : s1.L.length ≤ 4093) (hp : s.p + 9 ≤ s1.p) (r : Run bits s1 ts s2) : Run bits s (t :: ts) s2

def Agree (bits : List Nat) (p : Nat) (l : List Nat) : Prop := p + l.length ≤ bits.length ∧ ∀ i, i < l.length → bits.getD (p + i) 0 = l.getD i 0
theorem Agree.left {bits : List Nat} {p : Nat} {l m : List Nat} (h : Agree bits p (l ++ m)) : Agree bits p l := by
  refine ⟨by have := h.1; rw [List.length_append] at this; omega, fun i hi => ?_⟩
  rw [h.2 i (by rw [List.length_append]; omega)]
  simp only [List.getD_eq_getElem?_getD]
  rw [List.getElem?_append_left hi]
theorem Agree.right {bits : List Nat} {p : Nat} {l m : List Nat} (h : Agree bits p (l ++ m)) : Agree bits (p + l.length) m := by
  refine ⟨by have := h.1; rw [List.length_append] at this; omega, fun i hi => ?_⟩
  rw [Nat.add_assoc, h.2 (l.length + i) (by rw [List.length_append]; omega)]
  simp only [List.getD_eq_getElem?_getD]
  rw [List.getElem?_append_right (by omega)]
  congr 2; omega
theorem Agree.code {bits : List Nat} {p W c : Nat} (h : Agree bits p (wordB c W)) (hc : c < 2 ^ W) {L : List Txt} {a : Txt} (hW : widthL L.length false = W) :
    codeAt bits false ⟨L, a, p⟩ = c ∧ ¬ bits.length < p + W := by
  have h1 := h.1
  rw [length_wordB] at h1
  exact ⟨codeAt_of hW hc fun j hj => h.2 j (by rw [length_wordB]; exact hj), by omega⟩

/-- The decoder stands one text behind. -/
def Sync (EL L : List Txt) (a : Txt) (q : Nat) (tq : Txt) : Prop :=
  (L = EL ∧ EL.length = 258 ∧ a = [] ∧ q < 256) ∨ (a ≠ [] ∧ ∃ x r, tq = x :: r ∧ EL = L ++ [a ++ [x]])

theorem sync_step {bits : List Nat} {EL L : List Txt} {M : Pairs} {a tq : Txt} {q p : Nat} (hE : EOk EL M) (hq : EL[q]? = some tq) (hS : Sync EL L a q tq) (hA : Agree bits p (wordB q (widN EL.length)))
    (hn1 : q ≠ 256) (hn2 : q ≠ 257) : codeS bits false ⟨L, a, p⟩ = (⟨EL, tq, p + widN EL.length⟩, tq, false, 0) := by
  have hql : q < EL.length := (List.getElem?_eq_some_iff.1 hq).1
  have hl2 := hE.l2
  rcases hS with ⟨rfl, h258, rfl, h256⟩ | ⟨ha, x, r, rfl, hEL⟩
  · have hw : widthL L.length false = widN L.length := by rw [widthL_widN, h258]; rfl
    obtain ⟨g1, g2⟩ := hA.code (lt_widN hql (by omega)) (L := L) (a := []) hw
    exact codeS_lit hw g2 g1 hn1 hn2 rfl (by omega) hq
  · have hlen : EL.length = L.length + 1 := by rw [hEL]; simp
    have hw : widthL L.length false = widN EL.length := by rw [widthL_widN, hlen]
    obtain ⟨g1, g2⟩ := hA.code (lt_widN hql (by omega)) (L := L) (a := a) hw
    by_cases hlt : q < L.length
    · have ht : L[q]? = some (x :: r) := by rw [hEL, List.getElem?_append_left hlt] at hq; exact hq
      have := codeS_old hw g2 g1 hn1 hn2 ha hlt (by omega) ht
      rw [this, ← hEL]
    · have hqe : q = L.length := by omega
      have hax : x :: r = a ++ [x] := by
        rw [hEL, hqe] at hq
        simp at hq
        exact hq.symm
      obtain ⟨d, u, rfl⟩ : ∃ d u, a = d :: u := by
        cases a with
        | nil => exact absurd rfl ha
        | cons d u => exact ⟨d, u, rfl⟩
      have hxd : x = d := by simpa using congrArg List.head? hax
      subst hxd
      have := codeS_new hw g2 g1 hn1 hn2 (a := x :: u) rfl hqe (by omega)
      rw [this, ← hEL, hax]

theorem Run.trans1 {bits : List Nat} {s s1 s2 : LS} {t : Txt} {ts : List Txt} (h : codeS bits false s = (s1, t, false, 0)) (hm : s1.L.length ≤ 4093) (hp : s.p + 9 ≤ s1.p) (r : Run bits s1 ts s2) : Run bits s (t :: ts) s2 := .cons h hm hp r

theorem enc_run {bits : List Nat} : ∀ (cs : Txt) (EL : List Txt) (M : Pairs) (q : Nat) (tq : Txt) (L : List Txt) (a : Txt) (p : Nat), EOk EL M → EL[q]? = some tq → q ≠ 256 → q ≠ 257 → Sync EL L a q tq → Agree bits p (encF EL M (some q) cs) →
    ∃ ts s1 s2, Run bits ⟨L, a, p⟩ ts s1 ∧ codeS bits false s1 = (s2, [], true, 0) ∧ ts.flatten = tq ++ cs ∧ s2.p = p + (encF EL M (some q) cs).length := by
  intro cs
  induction cs with
  | nil =>
    intro EL M q tq L a p hE hq h1 h2 hS hA
    rw [encF] at hA ⊢
    have hs := sync_step hE hq hS hA.left h1 h2
    have hA2 := hA.right
    rw [length_wordB] at hA2
    have hw : widthL EL.length false = widN (EL.length + 1) := rfl
    have hl2 := hE.l2
    have hl1 := hE.l1
    obtain ⟨g1, g2⟩ := hA2.code (lt_widN (show 257 < EL.length + 1 by omega) (by omega)) (L := EL) (a := tq) hw
    refine ⟨[tq], _, _, .cons hs (by simp only; omega) (by have := widN_bd EL.length; simp only; omega) (.nil _), codeS_end hw g2 g1 rfl, by simp, ?_⟩
    simp only [List.length_append, length_wordB]
    omega
  | cons c cs ih =>
    intro EL M q tq L a p hE hq h1 h2 hS hA
    have hl2 := hE.l2
    have hl1 := hE.l1
    have hc8 : c.toNat < 256 := UInt8.toNat_lt c
    rw [encF] at hA ⊢
    cases hM : M q c.toNat with
    | some r =>
      simp only [hM] at hA ⊢
      obtain ⟨g1, u, g2, g3⟩ := hE.pr q c r hM
      have hu : u = tq := by rw [hq] at g2; exact (Option.some.inj g2).symm
      subst hu
      have hne := hE.ne q u hq
      have hS' : Sync EL L a r (u ++ [c]) := by
        rcases hS with ⟨rfl, h258, _, _⟩ | ⟨ha, x, v, e1, e2⟩
        · have := (List.getElem?_eq_some_iff.1 g3).1
          omega
        · exact .inr ⟨ha, x, v ++ [c], by rw [e1]; rfl, e2⟩
      obtain ⟨ts, s1, s2, r1, r2, r3, r4⟩ := ih EL M r (u ++ [c]) L a p hE g3 (by omega) (by omega) hS' hA
      exact ⟨ts, s1, s2, r1, r2, by rw [r3]; simp, r4⟩
    | none =>
      simp only [hM] at hA ⊢
      have hgd : EL.getD q [] = tq := by rw [List.getD_eq_getElem?_getD, hq]; rfl
      by_cases hf : EL.length + 1 = 4094
      · simp only [if_pos hf] at hA ⊢
        have hs := sync_step hE hq hS hA.left h1 h2
        have hA2 := hA.right
        rw [length_wordB] at hA2
        have hw : widthL EL.length false = 12 := by rw [widthL_widN, hf]; rfl
        obtain ⟨g1, g2⟩ := hA2.left.code (by decide) (L := EL) (a := tq) hw
        have hs2 := codeS_clear hw g2 g1 rfl
        have hA3 := hA2.right
        rw [length_wordB] at hA3
        obtain ⟨ts, s1, s2, r1, r2, r3, r4⟩ := ih start0 noPairs c.toNat [c] start0 [] _ EOk.start (start0_get c) (by omega) (by omega) (.inl ⟨rfl, length_start0, rfl, hc8⟩) hA3
        refine ⟨tq :: [] :: ts, s1, s2, .cons hs (by simp only; omega) (by have := widN_bd EL.length; simp only; omega) (.cons hs2 (by simp only [length_start0]; omega) (by simp only; omega) r1), r2, by simp [r3], ?_⟩
        rw [r4]
        simp only [List.length_append, length_wordB]
        omega
      · simp only [if_neg hf, hgd] at hA ⊢
        have hs := sync_step hE hq hS hA.left h1 h2
        have hA2 := hA.right
        rw [length_wordB] at hA2
        have hne := hE.ne q tq hq
        have hE2 := hE.add hq c (by omega)
        obtain ⟨ts, s1, s2, r1, r2, r3, r4⟩ := ih (EL ++ [tq ++ [c]]) (putPair M q c.toNat EL.length) c.toNat [c] EL tq _ hE2 (hE2.one c) (by omega) (by omega) (.inr ⟨hne, c, [], rfl, rfl⟩) hA2
        refine ⟨tq :: ts, s1, s2, .cons hs (by simp only; omega) (by have := widN_bd EL.length; simp only; omega) r1, r2, by simp [r3], ?_⟩
        rw [r4]
        simp only [List.length_append, length_wordB]
        omega

/-- All that is written: a Clear, codes that give the bytes, and End. -/
theorem encB_run {bits : List Nat} (b : Txt) (h : Agree bits 0 (encB b)) :
    codeS bits false ⟨start0, [], 0⟩ = (⟨start0, [], 9⟩, [], false, 0) ∧
    ∃ ts s1 s2, Run bits ⟨start0, [], 9⟩ ts s1 ∧ codeS bits false s1 = (s2, [], true, 0) ∧ ts.flatten = b ∧ s2.p = (encB b).length := by
  have hw : widthL start0.length false = 9 := by rw [length_start0]; rfl
  unfold encB at h ⊢
  obtain ⟨g1, g2⟩ := h.left.code (by decide) (L := start0) (a := []) hw
  have hs := codeS_clear hw g2 g1 rfl
  have hA := h.right
  rw [length_wordB] at hA
  simp only [Nat.zero_add] at hs hA
  refine ⟨hs, ?_⟩
  cases b with
  | nil =>
    rw [encF] at hA ⊢
    have hw2 : widthL start0.length false = widN start0.length := by rw [length_start0]; rfl
    obtain ⟨g1, g2⟩ := hA.code (by rw [length_start0]; decide) (L := start0) (a := []) hw2
    refine ⟨[], _, _, .nil _, codeS_end hw2 g2 g1 rfl, rfl, ?_⟩
    simp only [List.length_append, length_wordB]
  | cons c cs =>
    rw [encF] at hA ⊢
    have hc8 : c.toNat < 256 := UInt8.toNat_lt c
    obtain ⟨ts, s1, s2, r1, r2, r3, r4⟩ := enc_run cs start0 noPairs c.toNat [c] start0 [] 9 EOk.start (start0_get c) (by omega) (by omega) (.inl ⟨rfl, length_start0, rfl, hc8⟩) hA
    refine ⟨ts, s1, s2, r1, r2, by simpa using r3, ?_⟩
    rw [r4]
    simp only [List.length_append, length_wordB]
#print axioms encB_run
end Go.Mz
