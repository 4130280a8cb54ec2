/-
  Layer 15: pages of T.4; plain Lean.
-/
import Derived.Test.YtdjoigobmmaaiaaDoorG4M
namespace Go.Proofs.YtdjoigobmmaaiaaDoor
open Go.RowKit Go.Mz
set_option linter.unusedVariables false
set_option linter.unusedSimpArgs false
set_option maxRecDepth 100000

def erA {α : Type} : (α ⊕ Nat) → Nat
  | .inl _ => 0
  | .inr e => e
/-- Noughts are passed over up to a one. -/
def skipF (t : List Nat) : Nat → Nat → Nat → (Nat ⊕ Nat)
  | 0, _, _ => .inr 99
  | f + 1, p, n =>
    match t[p]? with
    | none => .inr 2
    | some b => if b = 0 then skipF t f (p + 1) (n + 1) else if n < 11 then .inr 3 else .inl (p + 1)
def skip3 (t : List Nat) (p : Nat) : Nat ⊕ Nat := skipF t (t.length + 1 - p) p 0
theorem skipF_bd {t : List Nat} : ∀ (f p n : Nat), (∀ q, skipF t f p n = .inl q → p < q ∧ q ≤ t.length) ∧ ∀ e, skipF t f p n = .inr e → e ≠ 0 ∧ e < 100 := by
  intro f
  induction f with
  | zero => intro p n; exact ⟨(fun q h => by cases h), (fun e h => by cases h; exact ⟨by decide, by decide⟩)⟩
  | succ f ih =>
    intro p n
    rw [skipF]
    cases hx : t[p]? with
    | none => exact ⟨(fun q h => by cases h), (fun e h => by cases h; exact ⟨by decide, by decide⟩)⟩
    | some b =>
      have hlt := (List.getElem?_eq_some_iff.1 hx).1
      simp only
      by_cases hb : b = 0
      · rw [if_pos hb]
        have := ih (p + 1) (n + 1)
        exact ⟨fun q h => by have := this.1 q h; omega, this.2⟩
      · rw [if_neg hb]
        by_cases hn : n < 11
        · rw [if_pos hn]; exact ⟨(fun q h => by cases h), (fun e h => by cases h; exact ⟨by decide, by decide⟩)⟩
        · rw [if_neg hn]; exact ⟨(fun q h => by cases h; omega), (fun e h => by cases h)⟩
/-- How the next row is told. -/
def flagF (t : List Nat) (two : Bool) (p : Nat) : (Nat × Bool) ⊕ Nat :=
  if two then (match t[p]? with | none => .inr 2 | some b => .inl (p + 1, decide (b = 1))) else .inl (p, true)
def row3 (t : List Nat) (width : Nat) (top : List Nat) (s : Bool) (p : Nat) : Nat × (List Nat ⊕ Nat) := if s then readRow t width p else readAg t top width p
theorem row3_bd {t : List Nat} {width : Nat} {top : List Nat} {s : Bool} {p : Nat} (htp : top.Pairwise (· < ·)) (htb : ∀ x ∈ top, x < width) (h1 : 1 ≤ width) (hp : p ≤ t.length) :
    (row3 t width top s p).1 ≤ t.length ∧ (∀ q, (row3 t width top s p).2 = .inl q → q.length = width ∧ Bit q) ∧ ∀ e, (row3 t width top s p).2 = .inr e → e ≠ 0 ∧ e < 100 := by
  cases s
  · exact readAg_bd htp htb h1 hp
  · exact readRow_bd hp
def dec3F (t : List Nat) (width : Nat) (two : Bool) : Nat → Nat → List Nat → List (List Nat) → (List (List Nat) ⊕ Nat)
  | 0, _, _, acc => .inl acc
  | n + 1, p, top, acc =>
    match skip3 t p with
    | .inr e => .inr e
    | .inl p1 =>
      match flagF t two p1 with
      | .inr e => .inr e
      | .inl (p2, s) =>
        match row3 t width top s p2 with
        | (_, .inr e) => .inr e
        | (k, .inl px) => dec3F t width two n k (chg px) (acc ++ [px])
theorem dec3F_bd {t : List Nat} {width : Nat} {two : Bool} (h1 : 1 ≤ width) : ∀ (n p : Nat) (top : List Nat) (acc : List (List Nat)), p ≤ t.length → (top.Pairwise (· < ·) ∧ ∀ x ∈ top, x < width) → (∀ P ∈ acc, P.length = width ∧ Bit P) →
    (∀ P ∈ okD (dec3F t width two n p top acc), P.length = width ∧ Bit P) ∧ (okD (dec3F t width two n p top acc)).length ≤ acc.length + n := by
  intro n
  induction n with
  | zero => intro p top acc _ _ h; rw [dec3F]; exact ⟨h, Nat.le_refl _⟩
  | succ n ih =>
    intro p top acc hp ht h
    rw [dec3F]
    have none9 : ∀ e : Nat, (∀ P ∈ okD (.inr e : List (List Nat) ⊕ Nat), P.length = width ∧ Bit P) ∧ (okD (.inr e : List (List Nat) ⊕ Nat)).length ≤ acc.length + (n + 1) := fun e => ⟨fun P hP => by simp [okD] at hP, by simp [okD]⟩
    cases hs : skip3 t p with
    | inr e => exact none9 e
    | inl p1 =>
      have hp1 := (skipF_bd (t := t) (t.length + 1 - p) p 0).1 p1 hs
      simp only
      cases hf : flagF t two p1 with
      | inr e => exact none9 e
      | inl r =>
        obtain ⟨p2, s⟩ := r
        have hp2 : p2 ≤ t.length := by
          rw [flagF] at hf
          cases two with
          | false => simp at hf; omega
          | true =>
            simp only [if_true] at hf
            cases hx : t[p1]? with
            | none => rw [hx] at hf; cases hf
            | some b =>
              rw [hx] at hf
              have hlt := (List.getElem?_eq_some_iff.1 hx).1
              cases hf
              omega
        simp only
        have hb := row3_bd (t := t) (s := s) ht.1 ht.2 h1 hp2
        cases hr : row3 t width top s p2 with
        | mk k y =>
          rw [hr] at hb
          cases y with
          | inr e => exact none9 e
          | inl px =>
            have hpx := hb.2.1 px rfl
            have := ih k (chg px) (acc ++ [px]) hb.1 (topOk hpx.1) (fun P hP => by
              rcases List.mem_append.1 hP with h' | h'
              · exact h P h'
              · rw [List.mem_singleton.1 h']; exact hpx)
            refine ⟨this.1, ?_⟩
            have h2 := this.2
            rw [List.length_append, List.length_singleton] at h2
            show (okD (dec3F t width two n k (chg px) (acc ++ [px]))).length ≤ _
            omega
def decG3 (t : List Nat) (two : Bool) (width n : Int) : List (List Nat) ⊕ Nat := if 1 ≤ width ∧ width ≤ 32768 ∧ 0 ≤ n then dec3F t width.toNat two n.toNat 0 [] [] else .inr 1
theorem decG3_bd {t : List Nat} {two : Bool} {width n : Int} (hn : n ≤ 1000) :
    (∀ P ∈ okD (decG3 t two width n), P.length ≤ 1000000 ∧ Bit P) ∧ (okD (decG3 t two width n)).length ≤ 1000 := by
  rw [decG3]
  split
  · have := dec3F_bd (t := t) (width := width.toNat) (two := two) (by omega) n.toNat 0 [] [] (Nat.zero_le _) ⟨List.Pairwise.nil, fun x hx => by cases hx⟩ (fun P hP => by cases hP)
    exact ⟨fun P hP => by have := this.1 P hP; exact ⟨by omega, this.2⟩, by have := this.2; simp at this; omega⟩
  · exact ⟨fun P hP => by simp [okD] at hP, by simp [okD]⟩

theorem bit_at {bs : List UInt8} {p : Nat} (h : p < 8 * bs.length) : (bitsL false bs)[p]? = some (bitV bs false p) ∧ bitV bs false p ≤ 1 ∧ peekV bs false p 1 = bitV bs false p :=
  ⟨bitsL_get false bs p h, bitV_le _ _ _, by rw [peekV_succ_hi]; simp [peekV, numV]⟩
theorem bit_out {bs : List UInt8} {p : Nat} (h : 8 * bs.length ≤ p) : (bitsL false bs)[p]? = none := List.getElem?_eq_none (by rw [length_bitsL]; exact h)

/-- What is told. -/
def endZ (n : Nat) : Nat := (12 - n % 8) % 8
def endB (two al s : Bool) (acc : List Nat) : List Nat := acc ++ (cond al (List.replicate (endZ acc.length) 0) [] ++ (eolW ++ cond two [cond s 1 0] []))
def singleF (two : Bool) (every : Int) (i : Nat) : Bool := !two || decide ((i : Int) % every = 0)
def body3 (width : Nat) (s : Bool) (l top : List Nat) : List Nat := cond s (rowB false (lensF 0 l width)) (agB l top width (width + 1) (-1) false)
def enc3F (width : Nat) (two al : Bool) (every : Int) : Nat → List Nat → List (List Nat) → List Nat → List Nat
  | _, _, [], acc => acc
  | i, top, l :: r, acc => enc3F width two al every (i + 1) l r (endB two al (singleF two every i) acc ++ body3 width (singleF two every i) l top)
def fin3 (two al fin : Bool) (acc : List Nat) : List Nat := cond fin (endB two false true (endB two false true (endB two false true (endB two false true (endB two false true (endB two al true acc)))))) acc
def enc3 (width : Nat) (two al fin : Bool) (every : Int) (L : List (List Nat)) : List Nat := fin3 two al fin (enc3F width two al every 0 [] L [])
theorem endB_len (two al s : Bool) (acc : List Nat) : (endB two al s acc).length ≤ acc.length + 20 := by
  have h1 : eolW.length = 12 := by decide
  rw [endB, List.length_append, List.length_append, List.length_append, h1]
  have h2 : (cond al (List.replicate (endZ acc.length) 0) []).length ≤ 7 := by cases al <;> simp [endZ]; omega
  have h3 : (cond two [cond s 1 0] []).length ≤ 1 := by cases two <;> simp
  omega
theorem bit_endB {two al s : Bool} {acc : List Nat} (h : Bit acc) : Bit (endB two al s acc) := by
  refine h.append (Bit.append ?_ (bit_eolW.append ?_))
  · cases al
    · exact bit_nil
    · exact bit_rep _
  · cases two
    · exact bit_nil
    · cases s <;> (intro b hb; simp at hb; omega)
theorem bit_body3 (width : Nat) (s : Bool) (l top : List Nat) : Bit (body3 width s l top) := by
  cases s
  · exact bit_agB _ _ _
  · exact bit_rowB _ _
theorem body3_len {width : Nat} (hw : width ≤ 400) {s : Bool} {l top : List Nat} (hl : RowOk width l) (ht : top.Pairwise (· < ·) ∧ ∀ x ∈ top, x < width) : (body3 width s l top).length ≤ 290000 := by
  cases s
  · have := agB_len hl.1 hl.2.1 ht.1 ht.2 (by omega) (width + 1) (-1) false
    show (agB l top width (width + 1) (-1) false).length ≤ _
    omega
  · have := rowB_lenF hl (by omega)
    show (rowB false (lensF 0 l width)).length ≤ _
    omega
theorem enc3F_len {width : Nat} (hw : width ≤ 400) {two al : Bool} {every : Int} : ∀ (L : List (List Nat)) (i : Nat) (top acc : List Nat), (∀ l ∈ L, RowOk width l) → (top.Pairwise (· < ·) ∧ ∀ x ∈ top, x < width) → (enc3F width two al every i top L acc).length ≤ acc.length + 300000 * L.length := by
  intro L
  induction L with
  | nil => intro i top acc _ _; simp [enc3F]
  | cons l r ih =>
    intro i top acc h ht
    have hl := h l (by simp)
    have h1 := body3_len hw (s := singleF two every i) hl ht
    have h2 := endB_len two al (singleF two every i) acc
    have h3 := ih (i + 1) l (endB two al (singleF two every i) acc ++ body3 width (singleF two every i) l top) (fun x hx => h x (by simp [hx])) ⟨hl.1, hl.2.1⟩
    rw [List.length_append] at h3
    rw [enc3F, List.length_cons]; omega
theorem bit_enc3F {width : Nat} {two al : Bool} {every : Int} : ∀ (L : List (List Nat)) (i : Nat) (top acc : List Nat), Bit acc → Bit (enc3F width two al every i top L acc) := by
  intro L
  induction L with
  | nil => intro i top acc h; exact h
  | cons l r ih => intro i top acc h; rw [enc3F]; exact ih _ _ _ ((bit_endB h).append (bit_body3 _ _ _ _))
theorem bit_fin3 {two al fin : Bool} {acc : List Nat} (h : Bit acc) : Bit (fin3 two al fin acc) := by
  cases fin
  · exact h
  · exact bit_endB (bit_endB (bit_endB (bit_endB (bit_endB (bit_endB h)))))
theorem fin3_len {two al fin : Bool} {acc : List Nat} : (fin3 two al fin acc).length ≤ acc.length + 120 := by
  cases fin
  · show acc.length ≤ _; omega
  · have h1 := endB_len two al true acc
    have h2 := endB_len two false true (endB two al true acc)
    have h3 := endB_len two false true (endB two false true (endB two al true acc))
    have h4 := endB_len two false true (endB two false true (endB two false true (endB two al true acc)))
    have h5 := endB_len two false true (endB two false true (endB two false true (endB two false true (endB two al true acc))))
    have h6 := endB_len two false true (endB two false true (endB two false true (endB two false true (endB two false true (endB two al true acc)))))
    show (endB two false true (endB two false true (endB two false true (endB two false true (endB two false true (endB two al true acc)))))).length ≤ _
    omega
theorem enc3F_pre {width : Nat} {two al : Bool} {every : Int} : ∀ (L : List (List Nat)) (i : Nat) (top acc : List Nat), ∃ X, enc3F width two al every i top L acc = acc ++ X := by
  intro L
  induction L with
  | nil => intro i top acc; exact ⟨[], by simp [enc3F]⟩
  | cons l r ih =>
    intro i top acc
    obtain ⟨X, hX⟩ := ih (i + 1) l (endB two al (singleF two every i) acc ++ body3 width (singleF two every i) l top)
    rw [enc3F, hX, endB]
    simp only [List.append_assoc]
    exact ⟨_, rfl⟩
theorem endB_pre (two al s : Bool) (acc : List Nat) : ∃ X, endB two al s acc = acc ++ X := ⟨_, rfl⟩
theorem fin3_pre (two al fin : Bool) (acc : List Nat) : ∃ X, fin3 two al fin acc = acc ++ X := by
  cases fin
  · exact ⟨[], by simp [fin3]⟩
  · show ∃ X, endB two false true (endB two false true (endB two false true (endB two false true (endB two false true (endB two al true acc))))) = acc ++ X
    simp only [endB, List.append_assoc]
    exact ⟨_, rfl⟩

/-- Noughts, and a one, are passed over. -/
theorem skip_told {t : List Nat} : ∀ (m f p n : Nat) (s : List Nat), m < f → 11 ≤ n + m → t.drop p = List.replicate m 0 ++ 1 :: s → skipF t f p n = .inl (p + m + 1) := by
  intro m
  induction m with
  | zero =>
    intro f p n s hf hn ht
    obtain ⟨f, rfl⟩ : ∃ g, f = g + 1 := ⟨f - 1, by omega⟩
    have hx : t[p]? = some 1 := by
      have := congrArg (fun l => l[0]?) ht
      simpa [List.getElem?_drop] using this
    rw [skipF, hx]
    simp only
    rw [if_neg (by decide), if_neg (by omega)]
  | succ m ih =>
    intro f p n s hf hn ht
    obtain ⟨f, rfl⟩ : ∃ g, f = g + 1 := ⟨f - 1, by omega⟩
    have hx : t[p]? = some 0 := by
      have := congrArg (fun l => l[0]?) ht
      simpa [List.getElem?_drop, List.replicate_succ] using this
    have hd : t.drop (p + 1) = List.replicate m 0 ++ 1 :: s := by
      rw [← List.drop_drop, ht, List.replicate_succ]; rfl
    rw [skipF, hx]
    simp only
    rw [if_pos trivial, ih f (p + 1) (n + 1) s (by omega) (by omega) hd]
    congr 1; omega
theorem eolW_eq : eolW = List.replicate 11 0 ++ [1] := by decide
theorem rep_rep (a b : Nat) (s : List Nat) : List.replicate a 0 ++ (List.replicate b 0 ++ s) = List.replicate (a + b) 0 ++ s := by
  rw [← List.append_assoc, List.replicate_append_replicate]
theorem dec3_told {t : List Nat} {width : Nat} {two al : Bool} {every : Int} (h1 : 1 ≤ width) (hw : width ≤ 32768) : ∀ (Ps : List (List Nat)) (i z : Nat) (Tp : List Nat) (p : Nat) (acc Y : List Nat) (out : List (List Nat)), (∀ P ∈ Ps, P.length = width ∧ Bit P) → Tp.length = width → p ≤ t.length →
    t.drop p = List.replicate z 0 ++ ((enc3F width two al every i (chg Tp) (Ps.map chg) acc).drop acc.length ++ Y) → dec3F t width two Ps.length p (chg Tp) out = .inl (out ++ Ps) := by
  intro Ps
  induction Ps with
  | nil => intro i z Tp p acc Y out _ _ _ _; simp [dec3F]
  | cons P r ih =>
    intro i z Tp p acc Y out hP hT hp ht
    obtain ⟨hPl, hPb⟩ := hP P (by simp)
    rw [List.map_cons, enc3F] at ht
    generalize hs : singleF two every i = s at *
    obtain ⟨X, hX⟩ := enc3F_pre (width := width) (two := two) (al := al) (every := every) (r.map chg) (i + 1) (chg P) (endB two al s acc ++ body3 width s (chg P) (chg Tp))
    have hrest : (enc3F width two al every (i + 1) (chg P) (r.map chg) (endB two al s acc ++ body3 width s (chg P) (chg Tp))).drop (endB two al s acc ++ body3 width s (chg P) (chg Tp)).length = X := by
      rw [hX, List.drop_left]
    obtain ⟨m, hm⟩ : ∃ m, cond al (List.replicate (endZ acc.length) 0) [] = List.replicate m 0 := by
      cases al
      · exact ⟨0, rfl⟩
      · exact ⟨_, rfl⟩
    have ht2 : t.drop p = List.replicate (z + m + 11) 0 ++ (1 :: (cond two [cond s 1 0] [] ++ (body3 width s (chg P) (chg Tp) ++ (X ++ Y)))) := by
      rw [ht, hX, endB, hm, eolW_eq]
      simp only [List.append_assoc, List.drop_left]
      rw [rep_rep, rep_rep]; rfl
    have hl := congrArg List.length ht2
    rw [List.length_drop, List.length_append, List.length_replicate, List.length_cons] at hl
    have hsk : skip3 t p = .inl (p + (z + m + 11) + 1) := skip_told (z + m + 11) _ p 0 _ (by omega) (by omega) ht2
    have hd1 : t.drop (p + (z + m + 11) + 1) = cond two [cond s 1 0] [] ++ (body3 width s (chg P) (chg Tp) ++ (X ++ Y)) := by
      have e : p + (z + m + 11) + 1 = p + ((z + m + 11) + 1) := by omega
      rw [e, ← List.drop_drop, ht2]
      have e2 : (z + m + 11) + 1 = (List.replicate (z + m + 11) 0 ++ [1]).length := by simp
      rw [e2, show (List.replicate (z + m + 11) 0 ++ (1 :: (cond two [cond s 1 0] [] ++ (body3 width s (chg P) (chg Tp) ++ (X ++ Y)))) : List Nat) = (List.replicate (z + m + 11) 0 ++ [1]) ++ (cond two [cond s 1 0] [] ++ (body3 width s (chg P) (chg Tp) ++ (X ++ Y))) by simp, List.drop_left]
    generalize p + (z + m + 11) + 1 = p1 at *
    have hl1 := congrArg List.length hd1
    rw [List.length_drop, List.length_append, List.length_append] at hl1
    obtain ⟨p2, hfl, hd2, hp2⟩ : ∃ p2, flagF t two p1 = .inl (p2, s) ∧ t.drop p2 = body3 width s (chg P) (chg Tp) ++ (X ++ Y) ∧ p2 ≤ t.length := by
      cases two with
      | false =>
        have hst : s = true := by rw [← hs]; rfl
        refine ⟨p1, by rw [flagF, hst]; rfl, hd1, ?_⟩
        by_cases hc : p1 ≤ t.length
        · exact hc
        · have := (skipF_bd (t := t) (t.length + 1 - p) p 0).1 p1 hsk; omega
      | true =>
        have hb : t[p1]? = some (cond s 1 0) := by
          have := congrArg (fun l => l[0]?) hd1
          simpa [List.getElem?_drop] using this
        have hlt := (List.getElem?_eq_some_iff.1 hb).1
        refine ⟨p1 + 1, ?_, ?_, by omega⟩
        · rw [flagF, if_pos rfl, hb]; cases s <;> rfl
        · rw [← List.drop_drop, hd1]; rfl
    have hrow : row3 t width (chg Tp) s p2 = (p2 + (body3 width s (chg P) (chg Tp)).length, .inl P) := by
      cases s with
      | true =>
        have := readRow_told hPb (by omega) hp2 (r := X ++ Y) (by rw [hPl]; exact hd2)
        rw [hPl] at this
        exact this
      | false =>
        have := readAg_told hPb (by rw [hT, hPl]) (by omega) hp2 (r := X ++ Y) (by rw [hPl]; exact hd2)
        rw [hPl] at this
        exact this
    have hd3 := drop_more hd2
    have hl2 := congrArg List.length hd2
    rw [List.length_drop, List.length_append] at hl2
    rw [List.length_cons, dec3F, hsk]
    simp only
    rw [hfl]
    simp only
    rw [hrow]
    simp only
    rw [ih (i + 1) 0 P _ (endB two al s acc ++ body3 width s (chg P) (chg Tp)) Y (out ++ [P]) (fun Q hQ => hP Q (by simp [hQ])) hPl (by omega) (by rw [hrest]; exact hd3), List.append_assoc]; rfl
theorem enc3_told {width : Nat} {two al fin : Bool} {every : Int} (h1 : 1 ≤ width) (hw : width ≤ 32768) {Ps : List (List Nat)} (hP : ∀ P ∈ Ps, P.length = width ∧ Bit P) (more : List UInt8) :
    dec3F (bitsL false ([0, 0] ++ (bytesB false (enc3 width two al fin every (Ps.map chg)) ++ more))) width two Ps.length 0 [] [] = .inl Ps := by
  have e0 : chg (runP width false) = [] := chg_white width
  have hb : Bit (enc3 width two al fin every (Ps.map chg)) := bit_fin3 (bit_enc3F _ _ _ _ bit_nil)
  obtain ⟨X, hX⟩ := fin3_pre two al fin (enc3F width two al every 0 [] (Ps.map chg) [])
  have ht : (bitsL false ([0, 0] ++ (bytesB false (enc3 width two al fin every (Ps.map chg)) ++ more))).drop 0 = List.replicate 16 0 ++ ((enc3F width two al every 0 (chg (runP width false)) (Ps.map chg) []).drop ([] : List Nat).length ++ (X ++ (List.replicate ((8 - (enc3 width two al fin every (Ps.map chg)).length % 8) % 8) 0 ++ bitsL false more))) := by
    rw [List.drop_zero, bitsL_append, bitsL_append, bits_bytes hb, alignL, e0]
    generalize (8 - (enc3 width two al fin every (Ps.map chg)).length % 8) % 8 = pd
    have e16 : bitsL false [0, 0] = List.replicate 16 0 := by decide
    conv => lhs; rw [enc3, hX]
    simp only [List.append_assoc, List.length_nil, List.drop_zero, e16]
  have := dec3_told h1 hw Ps 0 16 (runP width false) 0 [] _ [] hP (by simp [runP]) (Nat.zero_le _) ht
  rw [e0, List.nil_append] at this
  exact this
end Go.Proofs.YtdjoigobmmaaiaaDoor
