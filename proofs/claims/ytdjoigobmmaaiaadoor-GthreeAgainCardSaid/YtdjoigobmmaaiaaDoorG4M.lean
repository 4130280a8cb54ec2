/-
  Layer 16: pages each row of which is told by the one above it; plain Lean.
-/
import Derived.Test.YtdjoigobmmaaiaaDoorMhP
namespace Go.Proofs.YtdjoigobmmaaiaaDoor
open Go.RowKit Go.Mz
set_option linter.unusedVariables false
set_option linter.unusedSimpArgs false
set_option maxRecDepth 100000

def endW : List Nat := eolW ++ eolW
def isEnd (t : List Nat) (p : Nat) : Bool := decide ((t.drop p).take 24 = endW)
theorem endW_len : endW.length = 24 := by decide +kernel
theorem bit_endW : Bit endW := show ∀ b ∈ endW, b ≤ 1 by decide +kernel
theorem bit_eolW : Bit eolW := show ∀ b ∈ eolW, b ≤ 1 by decide +kernel

theorem numB_inj : ∀ (a b : List Nat), Bit a → Bit b → a.length = b.length → numB a = numB b → a = b := by
  intro a
  induction a with
  | nil => intro b _ _ hl _; cases b with
    | nil => rfl
    | cons y b => simp at hl
  | cons x a ih =>
    intro b ha hb hl hn
    cases b with
    | nil => simp at hl
    | cons y b =>
      simp only [List.length_cons, Nat.add_right_cancel_iff] at hl
      rw [numB_cons, numB_cons, hl] at hn
      have h1 := numB_lt (l := a) (fun c hc => ha c (by simp [hc]))
      have h2 := numB_lt (l := b) (fun c hc => hb c (by simp [hc]))
      rw [hl] at h1
      have hx := ha x (by simp)
      have hy := hb y (by simp)
      have hxy : x = y := by
        generalize 2 ^ b.length = q at *
        rcases Nat.le_one_iff_eq_zero_or_eq_one.1 hx with rfl | rfl <;> rcases Nat.le_one_iff_eq_zero_or_eq_one.1 hy with rfl | rfl
        · rfl
        · omega
        · omega
        · rfl
      subst hxy
      rw [ih b (fun c hc => ha c (by simp [hc])) (fun c hc => hb c (by simp [hc])) hl (by omega)]
theorem isEnd_short {t : List Nat} {p : Nat} (h : t.length < p + 24) : isEnd t p = false := by
  rw [isEnd, decide_eq_false_iff_not]
  intro e
  have := congrArg List.length e
  rw [endW_len, List.length_take, List.length_drop] at this
  omega
theorem peek_end {bs : List UInt8} {p : Nat} (h : p + 24 ≤ 8 * bs.length) : (((peekV bs false p 24 : Nat) : Int) == 4097) = isEnd (bitsL false bs) p := by
  have hl : (bitsL false bs).length = 8 * bs.length := length_bitsL _ _
  have e : peekV bs false p 24 = numB (((bitsL false bs).drop p).take 24) := by
    rw [peekV_eq, numV_hi, ← window _ p 24 24 (Nat.le_refl _), List.take_append_of_le_length (by rw [List.length_drop]; omega)]
  rw [e, isEnd]
  have hw : numB endW = 4097 := by decide +kernel
  by_cases hc : ((bitsL false bs).drop p).take 24 = endW
  · rw [hc, hw]; simp
  · rw [decide_eq_false hc]
    have : numB (((bitsL false bs).drop p).take 24) ≠ 4097 := fun h4 => hc (numB_inj _ _ (((bit_bitsL false bs).drop p).take 24) bit_endW (by rw [endW_len, List.length_take, List.length_drop]; omega) (by rw [h4, hw]))
    simp; omega

theorem tx_inj : ∀ {a b : List Nat}, Bit a → Bit b → tx a = tx b → a = b := by
  intro a
  induction a with
  | nil => intro b _ _ h; cases b with
    | nil => rfl
    | cons y b => simp at h
  | cons x a ih =>
    intro b ha hb h
    cases b with
    | nil => simp at h
    | cons y b =>
      simp only [tx_cons, List.cons.injEq] at h
      have hx := ha x (by simp)
      have hy := hb y (by simp)
      rw [dg_inj hx hy h.1, ih (fun c hc => ha c (by simp [hc])) (fun c hc => hb c (by simp [hc])) h.2]
theorem tx_extract (t : List Nat) (a b : Nat) : (⟨(tx t).toArray⟩ : ByteArray).extract a b = ⟨(tx ((t.drop a).take (b - a))).toArray⟩ := by
  rw [ByteArray.extract_mk (tx t) a b]; simp only [tx_take, tx_drop]
theorem text_end {t : List Nat} (hb : Bit t) (p : Nat) : (((⟨(tx t).toArray⟩ : ByteArray).extract p (p + 24)).toList == [48, 48, 48, 48, 48, 48, 48, 48, 48, 48, 48, 49, 48, 48, 48, 48, 48, 48, 48, 48, 48, 48, 48, 49]) = isEnd t p := by
  rw [tx_extract, Nat.add_sub_cancel_left]
  have e1 : (ByteArray.mk (tx ((t.drop p).take 24)).toArray).toList = tx ((t.drop p).take 24) := by rw [Lib.toList_data]
  have e2 : ([48, 48, 48, 48, 48, 48, 48, 48, 48, 48, 48, 49, 48, 48, 48, 48, 48, 48, 48, 48, 48, 48, 48, 49] : List UInt8) = tx endW := by decide +kernel
  rw [e1, e2, isEnd]
  by_cases hc : (t.drop p).take 24 = endW
  · rw [hc]; simp
  · rw [decide_eq_false hc]
    have : tx ((t.drop p).take 24) ≠ tx endW := fun h => hc (tx_inj ((hb.drop p).take 24) bit_endW h)
    simpa using this

/-- Rows of a page. -/
def dec4F (t : List Nat) (width : Nat) : Nat → Nat → List Nat → List (List Nat) → (List (List Nat) ⊕ Nat)
  | 0, _, _, acc => .inl acc
  | n + 1, p, top, acc =>
    if isEnd t p then .inr 2 else
    match readAg t top width p with
    | (_, .inr e) => .inr e
    | (k, .inl px) => dec4F t width n k (chg px) (acc ++ [px])

theorem topOk {Q : List Nat} {width : Nat} (h : Q.length = width) : (chg Q).Pairwise (· < ·) ∧ ∀ x ∈ chg Q, x < width := ⟨chg_inc Q, fun x hx => by rw [← h]; exact chg_lt Q x hx⟩
theorem dec4F_bd {t : List Nat} {width : Nat} (h1 : 1 ≤ width) : ∀ (n p : Nat) (top : List Nat) (acc : List (List Nat)), p ≤ t.length → (top.Pairwise (· < ·) ∧ ∀ x ∈ top, x < width) → (∀ P ∈ acc, P.length = width ∧ Bit P) →
    (∀ P ∈ okD (dec4F t width n p top acc), P.length = width ∧ Bit P) ∧ (okD (dec4F t width n p top acc)).length ≤ acc.length + n := by
  intro n
  induction n with
  | zero => intro p top acc _ _ h; rw [dec4F]; exact ⟨h, Nat.le_refl _⟩
  | succ n ih =>
    intro p top acc hp ht h
    rw [dec4F]
    cases isEnd t p with
    | true => exact ⟨fun P hP => by simp [okD] at hP, by simp [okD]⟩
    | false =>
      rw [if_neg (by decide)]
      have hb := readAg_bd (t := t) ht.1 ht.2 h1 hp
      cases hr : readAg t top width p with
      | mk k y =>
        rw [hr] at hb
        cases y with
        | inr e => exact ⟨fun P hP => by simp [okD] at hP, by simp [okD]⟩
        | inl px =>
          have hpx := hb.2.1 px rfl
          have := ih k (chg px) (acc ++ [px]) hb.1 (topOk hpx.1) (fun P hP => by
            rcases List.mem_append.1 hP with h' | h'
            · exact h P h'
            · rw [List.mem_singleton.1 h']; exact hpx)
          refine ⟨this.1, ?_⟩
          have h2 := this.2
          rw [List.length_append, List.length_singleton] at h2
          show (okD (dec4F t width n k (chg px) (acc ++ [px]))).length ≤ _
          omega

/-- A row by the row above it begins with a mode's word; that has a one among its first seven bits. -/
theorem mod_one {i : Nat} (h : i < 9) : (modW.getD i []).length ≤ 7 ∧ 1 ∈ modW.getD i [] := by
  have : ∀ i ∈ List.range 9, (modW.getD i []).length ≤ 7 ∧ 1 ∈ modW.getD i [] := by decide +kernel
  exact this i (List.mem_range.2 h)
theorem not_end {t w r : List Nat} {p : Nat} (hw : w.length ≤ 7) (h1 : 1 ∈ w) (h : t.drop p = w ++ r) : isEnd t p = false := by
  rw [isEnd, decide_eq_false_iff_not]
  intro e
  have e7 := congrArg (List.take w.length) e
  rw [List.take_take, Nat.min_eq_left (by omega), h, List.take_left] at e7
  have hz : ∀ k, k ≤ 7 → ∀ x ∈ endW.take k, x = 0 := by decide +kernel
  have := hz w.length hw 1 (by rw [← e7]; exact h1)
  cases this
theorem ag_begins {row top : List Nat} {width : Nat} (htp : top.Pairwise (· < ·) ∧ ∀ x ∈ top, x < width) (hrp : row.Pairwise (· < ·) ∧ ∀ x ∈ row, x < width) (h1 : 1 ≤ width) : ∃ i r, i < 9 ∧ agB row top width (width + 1) (-1) false = modW.getD i [] ++ r := by
  rw [agB, if_pos (by omega)]
  simp only
  generalize nextF true (-1) (!false) width row = a
  generalize nextF true (-1) (!false) width top = c
  by_cases h1 : c.2 < a.1
  · rw [if_pos h1]; exact ⟨8, _, by decide, rfl⟩
  · rw [if_neg h1]
    by_cases h2 : a.1 ≤ c.1 + 3 ∧ c.1 ≤ a.1 + 3
    · rw [if_pos h2]; exact ⟨a.1 + 3 - c.1, _, by omega, rfl⟩
    · rw [if_neg h2]; exact ⟨7, _, by decide, rfl⟩

theorem dec4_told {t : List Nat} {width : Nat} (h1 : 1 ≤ width) (hw : width ≤ 32768) : ∀ (Ps : List (List Nat)) (Tp : List Nat) (p : Nat) (X : List Nat) (acc : List (List Nat)) (k : Nat), (∀ P ∈ Ps, P.length = width ∧ Bit P) → Tp.length = width → p ≤ t.length →
    t.drop p = agAll width (chg Tp) (Ps.map chg) ++ X → (k ≤ Ps.length → dec4F t width k p (chg Tp) acc = .inl (acc ++ Ps.take k)) ∧ (X.take 24 = endW → dec4F t width (Ps.length + 1) p (chg Tp) acc = .inr 2) := by
  intro Ps
  induction Ps with
  | nil =>
    intro Tp p X acc k _ _ hp ht
    refine ⟨fun hk => ?_, fun hX => ?_⟩
    · obtain rfl : k = 0 := by simpa using hk
      simp [dec4F]
    · simp only [List.map_nil, agAll, List.nil_append] at ht
      rw [List.length_nil, dec4F]
      have : isEnd t p = true := by rw [isEnd, ht, hX]; simp
      rw [if_pos this]
  | cons P r ih =>
    intro Tp p X acc k hP hT hp ht
    obtain ⟨hPl, hPb⟩ := hP P (by simp)
    rw [List.map_cons, agAll, List.append_assoc] at ht
    obtain ⟨i, s, hi, hs⟩ := ag_begins (topOk hT) (topOk hPl) h1
    have hne : isEnd t p = false := by
      rw [hs, List.append_assoc] at ht
      exact not_end (mod_one hi).1 (mod_one hi).2 ht
    have hRT := readAg_told hPb (by rw [hT, hPl]) (by omega) hp (by rw [hPl]; exact ht)
    rw [hPl] at hRT
    have hd := drop_more ht
    have hl := congrArg List.length ht
    rw [List.length_drop, List.length_append] at hl
    have key : ∀ n, dec4F t width (n + 1) p (chg Tp) acc = dec4F t width n (p + (agB (chg P) (chg Tp) width (width + 1) (-1) false).length) (chg P) (acc ++ [P]) := fun n => by
      rw [dec4F, hne, if_neg (by decide), hRT]
    have IH := fun k => ih P (p + (agB (chg P) (chg Tp) width (width + 1) (-1) false).length) X (acc ++ [P]) k (fun Q hQ => hP Q (by simp [hQ])) hPl (by omega) hd
    refine ⟨fun hk => ?_, fun hX => ?_⟩
    · cases k with
      | zero => simp [dec4F]
      | succ k =>
        rw [key, (IH k).1 (by simpa using hk), List.take_succ_cons, List.append_assoc]; rfl
    · rw [List.length_cons, key]
      exact (IH 0).2 hX

/-- What is told of a page. -/
def enc4 (width : Nat) (L : List (List Nat)) : List Nat := agAll width [] L ++ endW
theorem bit_agB {row top : List Nat} {width : Nat} : ∀ (f : Nat) (at' : Int) (b : Bool), Bit (agB row top width f at' b) := by
  have hm : ∀ i, Bit (modW.getD i []) := fun i => by
    rw [List.getD_eq_getElem?_getD]
    cases hx : modW[i]? with
    | none => exact bit_nil
    | some v => exact bit_mod v (List.mem_of_getElem? hx)
  intro f
  induction f with
  | zero => intro at' b; exact bit_nil
  | succ f ih =>
    intro at' b
    rw [agB]
    split
    · simp only
      split
      · exact (hm 8).append (ih _ _)
      · split
        · exact (hm _).append (ih _ _)
        · exact (hm 7).append ((bit_tellB _ _).append ((bit_tellB _ _).append (ih _ _)))
    · exact bit_nil
theorem bit_agAll (width : Nat) : ∀ (L : List (List Nat)) (top : List Nat), Bit (agAll width top L) := by
  intro L
  induction L with
  | nil => intro top; exact bit_nil
  | cons l r ih => intro top; rw [agAll]; exact (bit_agB _ _ _).append (ih _)
theorem agAll_len {width : Nat} (hw : width ≤ 400) : ∀ (L : List (List Nat)) (top : List Nat), (∀ l ∈ L, RowOk width l) → (top.Pairwise (· < ·) ∧ ∀ x ∈ top, x < width) → (agAll width top L).length ≤ 300000 * L.length := by
  intro L
  induction L with
  | nil => intro top _ _; simp [agAll]
  | cons l r ih =>
    intro top h ht
    have hl := h l (by simp)
    have h1 := agB_len hl.1 hl.2.1 ht.1 ht.2 (by omega) (width + 1) (-1) false
    have h2 := ih l (fun x hx => h x (by simp [hx])) ⟨hl.1, hl.2.1⟩
    rw [agAll, List.length_append, List.length_cons]; omega
theorem enc4_told {width : Nat} (h1 : 1 ≤ width) (hw : width ≤ 32768) {Ps : List (List Nat)} (hP : ∀ P ∈ Ps, P.length = width ∧ Bit P) (more : List UInt8) (k : Nat) :
    (k ≤ Ps.length → dec4F (bitsL false (bytesB false (enc4 width (Ps.map chg)) ++ more)) width k 0 [] [] = .inl (Ps.take k)) ∧ dec4F (bitsL false (bytesB false (enc4 width (Ps.map chg)) ++ more)) width (Ps.length + 1) 0 [] [] = .inr 2 := by
  have hb : Bit (enc4 width (Ps.map chg)) := (bit_agAll _ _ _).append bit_endW
  have e0 : chg (runP width false) = [] := chg_white width
  have ht : (bitsL false (bytesB false (enc4 width (Ps.map chg)) ++ more)).drop 0 = agAll width (chg (runP width false)) (Ps.map chg) ++ (endW ++ (List.replicate ((8 - (enc4 width (Ps.map chg)).length % 8) % 8) 0 ++ bitsL false more)) := by
    rw [List.drop_zero, bitsL_append, bits_bytes hb, alignL, e0, enc4]; simp only [List.append_assoc]
  have := dec4_told h1 hw Ps (runP width false) 0 _ [] k hP (by simp [runP]) (Nat.zero_le _) ht
  rw [e0, List.nil_append] at this
  exact ⟨this.1, this.2 (by rw [List.take_left' endW_len])⟩
/-- What Decode gives, whatever the numbers are. -/
def decG4 (t : List Nat) (width n : Int) : List (List Nat) ⊕ Nat := if 1 ≤ width ∧ width ≤ 32768 ∧ 0 ≤ n then dec4F t width.toNat n.toNat 0 [] [] else .inr 1
theorem decG4_bd {t : List Nat} {width n : Int} (hn : n ≤ 1000) :
    (∀ P ∈ okD (decG4 t width n), P.length ≤ 1000000 ∧ Bit P) ∧ (okD (decG4 t width n)).length ≤ 1000 := by
  rw [decG4]
  split
  · have := dec4F_bd (t := t) (width := width.toNat) (by omega) n.toNat 0 [] [] (Nat.zero_le _) ⟨List.Pairwise.nil, fun x hx => by cases hx⟩ (fun P hP => by cases hP)
    exact ⟨fun P hP => by have := this.1 P hP; exact ⟨by omega, this.2⟩, by have := this.2; simp at this; omega⟩
  · exact ⟨fun P hP => by simp [okD] at hP, by simp [okD]⟩
end Go.Proofs.YtdjoigobmmaaiaaDoor
