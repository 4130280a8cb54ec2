/-
  Layer 14 (mh): rows as pixels and as places at which they change, what is told of them and what is read; plain Lean over the specs of layer 13.
-/
import Derived.Test.YtdjoigobmmaaiaaDoorFaxE
namespace Go.Proofs.YtdjoigobmmaaiaaDoor
open Go.RowKit Go.Mz
set_option linter.unusedVariables false
set_option linter.unusedSimpArgs false
set_option maxRecDepth 100000

def cl (b : Bool) : Nat := cond b 1 0
theorem cl_not {b : Bool} {x : Nat} (hx : x ≤ 1) (h : x ≠ cl b) : x = cl (!b) := by
  cases b <;> simp [cl] at * <;> omega
theorem cl_ne (b : Bool) : cl (!b) ≠ cl b := by cases b <;> decide
theorem cl_le (b : Bool) : cl b ≤ 1 := by cases b <;> decide
/-- Where pixels change, from a place on, behind a pixel c. -/
def chF (c i : Nat) : List Nat → List Nat
  | [] => []
  | x :: r => if x = c then chF c (i + 1) r else i :: chF x (i + 1) r
def chg (p : List Nat) : List Nat := chF 0 0 p
def lastC (c : Nat) (p : List Nat) : Nat := p.getLastD c
def runP (n : Nat) (b : Bool) : List Nat := List.replicate n (cl b)
theorem bit_runP (n : Nat) (b : Bool) : Bit (runP n b) := fun x hx => by
  rw [List.eq_of_mem_replicate hx]; exact cl_le b
@[simp] theorem length_runP (n : Nat) (b : Bool) : (runP n b).length = n := by simp [runP]

theorem chF_append (q : List Nat) : ∀ (p : List Nat) (c i : Nat), chF c i (p ++ q) = chF c i p ++ chF (lastC c p) (i + p.length) q := by
  intro p
  induction p with
  | nil => intro c i; simp [chF, lastC]
  | cons x r ih =>
    intro c i
    have hl : lastC c (x :: r) = lastC x r := List.getLastD_cons ..
    have h1 : i + (x :: r).length = i + 1 + r.length := by simp; omega
    by_cases hx : x = c
    · subst hx
      rw [List.cons_append, chF, if_pos rfl, chF, if_pos rfl, ih, hl, h1]
    · rw [List.cons_append, chF, if_neg hx, chF, if_neg hx, ih, hl, h1, List.cons_append]
theorem chF_same (c : Nat) : ∀ (n i : Nat), chF c i (List.replicate n c) = [] := by
  intro n
  induction n with
  | zero => intro i; rfl
  | succ n ih => intro i; rw [List.replicate_succ, chF, if_pos rfl, ih]
theorem chF_other {c d : Nat} (h : d ≠ c) (n i : Nat) : chF c i (List.replicate (n + 1) d) = [i] := by
  rw [List.replicate_succ, chF, if_neg h, chF_same]
theorem chF_bd : ∀ (p : List Nat) (c i : Nat), ∀ x ∈ chF c i p, i ≤ x ∧ x < i + p.length := by
  intro p
  induction p with
  | nil => intro c i x hx; cases hx
  | cons y r ih =>
    intro c i x hx
    rw [chF] at hx
    split at hx
    · have := ih _ _ x hx; simp; omega
    · rcases List.mem_cons.1 hx with rfl | hx
      · simp
      · have := ih _ _ x hx; simp; omega
theorem chF_inc : ∀ (p : List Nat) (c i : Nat), (chF c i p).Pairwise (· < ·) := by
  intro p
  induction p with
  | nil => intro c i; exact List.Pairwise.nil
  | cons y r ih =>
    intro c i
    rw [chF]
    split
    · exact ih _ _
    · refine List.Pairwise.cons (fun x hx => ?_) (ih _ _)
      have := chF_bd _ _ _ x hx
      omega
theorem chF_len : ∀ (p : List Nat) (c i : Nat), (chF c i p).length ≤ p.length := by
  intro p
  induction p with
  | nil => intro c i; exact Nat.le_refl _
  | cons y r ih =>
    intro c i
    rw [chF]
    split
    · have := ih c (i + 1); simp; omega
    · have := ih y (i + 1); simp; omega
theorem chg_run (p : List Nat) (n : Nat) (b : Bool) : chg (p ++ runP n b) = if n = 0 ∨ lastC 0 p = cl b then chg p else chg p ++ [p.length] := by
  rw [chg, chF_append, Nat.zero_add]
  cases n with
  | zero => rw [if_pos (.inl rfl)]; simp [runP, chF, chg]
  | succ n =>
    by_cases h : lastC 0 p = cl b
    · rw [if_pos (.inr h), h, runP, chF_same, List.append_nil]; rfl
    · rw [if_neg (by simp [h]), runP, chF_other (fun e => h e.symm)]; rfl
theorem lastC_run (p : List Nat) (n : Nat) (b : Bool) : lastC 0 (p ++ runP n b) = if n = 0 then lastC 0 p else cl b := by
  cases n with
  | zero => simp [runP]
  | succ n => rw [if_neg (by omega), runP, List.replicate_succ', ← List.append_assoc, lastC]; simp

/-- A place more at which a row changes, or one less. -/
def tog (l : List Nat) (x : Nat) : List Nat := if l.getLast? = some x then l.dropLast else l ++ [x]
theorem tog_out (l : List Nat) (x : Nat) : tog (l ++ [x]) x = l := by simp [tog]
theorem tog_in {l : List Nat} {x : Nat} (h : ∀ y ∈ l, y < x) : tog l x = l ++ [x] := by
  rw [tog, if_neg]
  intro e
  have := h x (List.mem_of_getLast? e)
  omega
/-- The places that a reader keeps, beside the pixels so far. -/
def Rel (row px : List Nat) (b : Bool) (width : Nat) : Prop := row = if lastC 0 px = cl b ∨ px.length = width then chg px else chg px ++ [px.length]
theorem rel_init (width : Nat) : Rel [] [] false width := by simp [Rel, lastC, cl, chg, chF]
theorem chg_lt (p : List Nat) : ∀ x ∈ chg p, x < p.length := fun x hx => by
  have := chF_bd p 0 0 x hx; omega
theorem rel_end {row px : List Nat} {b : Bool} {width : Nat} (h : Rel row px b width) (he : px.length = width) : row = chg px := by
  rw [Rel, if_pos (.inr he)] at h; exact h
theorem lastC_bit {p : List Nat} (h : Bit p) : lastC 0 p ≤ 1 := by
  rw [lastC, List.getLastD_eq_getLast?]
  cases hq : p.getLast? with
  | none => simp
  | some x => exact h x (List.mem_of_getLast? hq)
theorem rel_run {row px : List Nat} {b : Bool} {width n : Nat} (h : Rel row px b width) (hn : 0 < n) (hw : px.length + n ≤ width) : row = chg (px ++ runP n b) := by
  rw [Rel] at h
  rw [chg_run, h]
  by_cases h1 : lastC 0 px = cl b
  · rw [if_pos (.inl h1), if_pos (.inr h1)]
  · rw [if_neg (by intro h2; rcases h2 with h2 | h2; exact h1 h2; omega), if_neg (by intro h2; rcases h2 with h2 | h2; omega; exact h1 h2)]
theorem rel_pass {row px : List Nat} {b : Bool} {width n : Nat} (h : Rel row px b width) (hn : 0 < n) (hw : px.length + n ≤ width) : Rel row (px ++ runP n b) b width := by
  rw [Rel, if_pos (.inl (by rw [lastC_run, if_neg (by omega)]))]
  exact rel_run h hn hw
theorem rel_step {row px : List Nat} {b : Bool} {width n : Nat} (hb : Bit px) (h : Rel row px b width) (hw : px.length + n ≤ width) :
    Rel (if px.length + n < width then tog row (px.length + n) else row) (px ++ runP n b) (!b) width := by
  have hl : (px ++ runP n b).length = px.length + n := by simp
  rw [Rel, hl]
  by_cases hlt : px.length + n < width
  · rw [if_pos hlt]
    by_cases hn : n = 0
    · subst hn
      have e0 : px ++ runP 0 b = px := by simp [runP]
      rw [e0, Nat.add_zero]
      rw [Rel] at h
      by_cases h1 : lastC 0 px = cl b
      · rw [if_pos (.inl h1)] at h
        rw [if_neg (by rintro (h2 | h2); exact cl_ne b (h2.symm.trans h1); omega), h, tog_in (chg_lt px)]
      · rw [if_neg (by rintro (h2 | h2); exact h1 h2; omega)] at h
        rw [if_pos (.inl (cl_not (lastC_bit hb) h1)), h, tog_out]
    · have hr := rel_run h (by omega) hw
      have hc : lastC 0 (px ++ runP n b) = cl b := by rw [lastC_run, if_neg hn]
      rw [hc, if_neg (by rintro (h2 | h2); exact cl_ne b h2.symm; omega), hr, tog_in (fun y hy => by have := chg_lt _ y hy; omega)]
  · rw [if_neg hlt, if_pos (.inr (by omega))]
    by_cases hn : n = 0
    · subst hn
      have e0 : px ++ runP 0 b = px := by simp [runP]
      rw [e0]
      exact rel_end h (by omega)
    · exact rel_run h (by omega) hw

/-- The first change to a colour behind a place, and the one behind that. -/
def nextF (par : Bool) (at' : Int) (toB : Bool) (width : Nat) : List Nat → Nat × Nat
  | [] => (width, width)
  | x :: r => if at' < (x : Int) ∧ par = toB then (x, r.headD width) else nextF (!par) at' toB width r
theorem nextF_bd {at' : Int} {toB : Bool} {width : Nat} : ∀ (l : List Nat) (par : Bool), l.Pairwise (· < ·) → (∀ x ∈ l, x < width) → at' < width →
    at' < ((nextF par at' toB width l).1 : Int) ∧ (nextF par at' toB width l).1 ≤ (nextF par at' toB width l).2 ∧ (nextF par at' toB width l).2 ≤ width ∧ ((nextF par at' toB width l).1 < width → (nextF par at' toB width l).1 < (nextF par at' toB width l).2) := by
  intro l
  induction l with
  | nil => intro par _ _ h; exact ⟨h, Nat.le_refl _, Nat.le_refl _, fun h => absurd h (Nat.lt_irrefl _)⟩
  | cons x r ih =>
    intro par hp hb h
    rw [nextF]
    split
    · rename_i hx
      have hxw := hb x (by simp)
      cases r with
      | nil => simp; omega
      | cons y r =>
        have h1 := (List.pairwise_cons.1 hp).1 y (by simp)
        have h2 := hb y (by simp)
        simp; omega
    · exact ih _ (List.pairwise_cons.1 hp).2 (fun y hy => hb y (by simp [hy])) h

/-- A row's lengths, and the bits that tell them. -/
def lensF (was : Nat) (l : List Nat) (width : Nat) : List Nat := match l with
  | [] => [width - was]
  | x :: r => (x - was) :: lensF x r width
def rowB (b : Bool) : List Nat → List Nat
  | [] => []
  | n :: r => tellB b n ++ rowB (!b) r
/-- The document's walk over the pixels. -/
def rowP (b : Bool) (n : Nat) : List Nat → List Nat
  | [] => tellB b n
  | x :: r => if x = cl b then rowP b (n + 1) r else tellB b n ++ rowP (!b) 1 r
theorem rowP_eq : ∀ (p : List Nat) (b : Bool) (was i : Nat), Bit p → was ≤ i → rowP b (i - was) p = rowB b (lensF was (chF (cl b) i p) (i + p.length)) := by
  intro p
  induction p with
  | nil => intro b was i _ _; simp [rowP, chF, lensF, rowB]
  | cons x r ih =>
    intro b was i hb hw
    have h1 : i + (x :: r).length = i + 1 + r.length := by simp; omega
    rw [rowP, h1]
    by_cases hx : x = cl b
    · rw [if_pos hx, chF, if_pos hx, ← ih b was (i + 1) (fun y hy => hb y (by simp [hy])) (by omega), show i - was + 1 = i + 1 - was by omega]
    · have hc := cl_not (hb x (by simp)) hx
      rw [if_neg hx, chF, if_neg hx, lensF, rowB, hc, ← ih (!b) i (i + 1) (fun y hy => hb y (by simp [hy])) (by omega), show i + 1 - i = 1 by omega]
theorem row_told {p : List Nat} (h : Bit p) : rowP false 0 p = rowB false (lensF 0 (chg p) p.length) := by
  have := rowP_eq p false 0 0 h (Nat.le_refl _)
  simpa [chg, cl] using this

/-- A row by the row above. -/
def agB (row top : List Nat) (width : Nat) : Nat → Int → Bool → List Nat
  | 0, _, _ => []
  | f + 1, at', b =>
    if at' < width then
      let a := nextF true at' (!b) width row
      let c := nextF true at' (!b) width top
      if c.2 < a.1 then modW.getD 8 [] ++ agB row top width f c.2 b
      else if a.1 ≤ c.1 + 3 ∧ c.1 ≤ a.1 + 3 then modW.getD (a.1 + 3 - c.1) [] ++ agB row top width f a.1 (!b)
      else modW.getD 7 [] ++ (tellB b (a.1 - (max at' 0).toNat) ++ (tellB (!b) (a.2 - a.1) ++ agB row top width f a.2 b))
    else []

/-- A row of bits by its lengths. -/
def rdRow (t : List Nat) (width : Nat) : Nat → Nat → List Nat → Bool → Nat × (List Nat ⊕ Nat)
  | 0, p, _, _ => (p, .inr 99)
  | f + 1, p, px, b =>
    match readL b t ((width - px.length : Nat) : Int) p with
    | (k, .inr e) => (k, .inr e)
    | (k, .inl n) => if px.length + n = width then (k, .inl (px ++ runP n b)) else rdRow t width f k (px ++ runP n b) (!b)
def two (t : List Nat) (width : Nat) (k : Nat) (px : List Nat) (b : Bool) : Nat × (List Nat ⊕ Nat) :=
  match readL b t ((width - px.length : Nat) : Int) k with
  | (k1, .inr e) => (k1, .inr e)
  | (k1, .inl n1) =>
    match readL (!b) t ((width - (px.length + n1) : Nat) : Int) k1 with
    | (k2, .inr e) => (k2, .inr e)
    | (k2, .inl n2) => (k2, .inl (px ++ runP n1 b ++ runP n2 (!b)))
/-- One mode of a row by the row above: the pixels, the colour, the place. -/
def stepAg (t top : List Nat) (width : Nat) (p : Nat) (px : List Nat) (b : Bool) (at' : Int) : Nat × ((List Nat × Bool × Int) ⊕ Nat) :=
  match readMd t p with
  | (k, .inr e) => (k, .inr e)
  | (k, .inl m) =>
    let c := nextF true at' (!b) width top
    if m = 5 then (k, .inl (px ++ runP (c.2 - px.length) b, b, (c.2 : Int)))
    else if m = 4 then
      match two t width k px b with
      | (k2, .inr e) => (k2, .inr e)
      | (k2, .inl px2) => (k2, .inl (px2, b, (px2.length : Int)))
    else if (c.1 : Int) + m ≤ at' ∨ (c.1 : Int) + m < 0 ∨ (width : Int) < (c.1 : Int) + m then (k, .inr 3)
    else (k, .inl (px ++ runP (((c.1 : Int) + m).toNat - px.length) b, !b, (c.1 : Int) + m))
def rdAg (t top : List Nat) (width : Nat) : Nat → Nat → List Nat → Bool → Int → Nat × (List Nat ⊕ Nat)
  | 0, p, _, _, _ => (p, .inr 99)
  | f + 1, p, px, b, at' =>
    if at' < width then
      match stepAg t top width p px b at' with
      | (k, .inr e) => (k, .inr e)
      | (k, .inl (px', b', a')) => rdAg t top width f k px' b' a'
    else (p, .inl px)
/-- Where the reader of a row by the row above stands. -/
def AtOk (px : List Nat) (at' : Int) : Prop := (at' = -1 ∧ px = []) ∨ at' = px.length
theorem readFx_ok {W t : List _} {most : Int} : ∀ (f p n k z : Nat), readFx W t most f p n = (k, .inl z) → p ≤ t.length → p < k ∧ k ≤ t.length ∧ (z : Int) ≤ most := by
  intro f
  induction f with
  | zero => intro p n k z h; rw [readFx] at h; cases h
  | succ f ih =>
    intro p n k z h hp
    have hl := rdW_len W (t.drop p) []
    rw [List.length_drop] at hl
    rw [readFx] at h
    cases hr : rdW W [] (t.drop p) with
    | mk k1 r =>
      rw [hr] at h hl
      cases r with
      | inr e => cases h
      | inl i =>
        have h1 := (hl.2.2.2.1 i rfl).1
        have h2 := hl.2.1
        simp only [List.length_nil] at h1 h2 h
        split at h
        · cases h
        · split at h
          · cases h; omega
          · have := ih _ _ _ _ h (by omega); omega
theorem readFx_er {W t : List _} {most : Int} : ∀ (f p n k e : Nat), readFx W t most f p n = (k, .inr e) → p ≤ t.length → k ≤ t.length ∧ e ≠ 0 ∧ e < 100 := by
  intro f
  induction f with
  | zero => intro p n k e h hp; rw [readFx] at h; cases h; omega
  | succ f ih =>
    intro p n k e h hp
    have hl := rdW_len W (t.drop p) []
    rw [List.length_drop] at hl
    rw [readFx] at h
    cases hr : rdW W [] (t.drop p) with
    | mk k1 r =>
      rw [hr] at h hl
      have h2 := hl.2.1
      cases r with
      | inr e' =>
        have h1 := hl.2.2.2.2 e' rfl
        simp only [List.length_nil] at h1 h2 h
        cases h; omega
      | inl i =>
        simp only [List.length_nil] at h2 h
        split at h
        · cases h; omega
        · split at h
          · cases h
          · have h1 := (hl.2.2.2.1 i rfl).1
            exact ih _ _ _ _ h (by omega)
theorem readL_ok {b : Bool} {t : List Nat} {most : Int} {p k z : Nat} (h : readL b t most p = (k, .inl z)) (hp : p ≤ t.length) : p < k ∧ k ≤ t.length ∧ (z : Int) ≤ most := readFx_ok _ _ _ _ _ h hp
theorem readL_er {b : Bool} {t : List Nat} {most : Int} {p k e : Nat} (h : readL b t most p = (k, .inr e)) (hp : p ≤ t.length) : k ≤ t.length ∧ e ≠ 0 ∧ e < 100 := readFx_er _ _ _ _ _ h hp
theorem readMd_ok {t : List Nat} {p k : Nat} {m : Int} (h : readMd t p = (k, .inl m)) (hp : p ≤ t.length) : p < k ∧ k ≤ t.length ∧ -3 ≤ m ∧ m ≤ 5 := by
  have hl := rdW_len modW (t.drop p) []
  rw [List.length_drop] at hl
  rw [readMd] at h
  cases hr : rdW modW [] (t.drop p) with
  | mk k1 r =>
    rw [hr] at h hl
    cases r with
    | inr e => cases h
    | inl i =>
      have h1 := hl.2.2.2.1 i rfl
      have h2 := hl.2.1
      rw [len_mod] at h1
      simp only [List.length_nil] at h1 h2 h
      split at h
      · cases h
      · cases h; omega
theorem readMd_er {t : List Nat} {p k e : Nat} (h : readMd t p = (k, .inr e)) (hp : p ≤ t.length) : k ≤ t.length ∧ e ≠ 0 ∧ e < 100 := by
  have hl := rdW_len modW (t.drop p) []
  rw [List.length_drop] at hl
  rw [readMd] at h
  cases hr : rdW modW [] (t.drop p) with
  | mk k1 r =>
    rw [hr] at h hl
    have h2 := hl.2.1
    cases r with
    | inr e =>
      have h1 := hl.2.2.2.2 e rfl
      simp only [List.length_nil] at h1 h2 h
      cases h; omega
    | inl i =>
      simp only [List.length_nil] at h2 h
      split at h
      · cases h; omega
      · cases h
#print axioms row_told
end Go.Proofs.YtdjoigobmmaaiaaDoor
