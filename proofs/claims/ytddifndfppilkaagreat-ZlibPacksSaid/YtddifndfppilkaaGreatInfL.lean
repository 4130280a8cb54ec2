/-
  Layer 8 (inflate): how far blocks reach, and how many bytes come; plain Lean.
  Layer 11 (zlib): bytes wrapped, and a wrapping opened (package zlib).
  Layer 11: what is wrapped is opened; plain Lean.
  Layer 11 (zlib): lives.
-/
import Derived.Test.YtddifndfppilkaaGreatInfH
import Derived.Test.YtddifndfppilkaaGreatOct
import Derived.Test.YtddifndfppilkaaGreatDefN
import Derived.BigQuiet
namespace Go.Proofs.YtddifndfppilkaaGreat
open Go.RowKit Go.Mz
set_option linter.unusedVariables false
set_option linter.unusedSimpArgs false
set_option maxRecDepth 10000

/-- Behind a place within, as many bytes as may be. -/
def UpS (t : List Nat) (most q : Nat) (o : List UInt8) : Prop := q ≤ t.length ∧ o.length ≤ most
theorem rdW_up {W : List (List Nat)} {t : List Nat} {p k v : Nat} (hp : p ≤ t.length) (h : rdW W [] (t.drop p) = (k, .inl v)) : p + k ≤ t.length := by
  have := (rdW_len W (t.drop p) []).2.1
  rw [h, List.length_nil, List.length_drop] at this
  simp only at this
  omega
theorem bytesF_up {t : List Nat} {most : Nat} : ∀ (n p q : Nat) (out o : List UInt8), bytesF t most n p out = .inr (q, o) → UpS t most p out → UpS t most q o := by
  intro n
  induction n with
  | zero => intro p q out o h u; rw [bytesF] at h; cases h; exact u
  | succ n ih =>
    intro p q out o h u
    rw [bytesF] at h
    split at h
    · cases h
    · split at h
      · cases h
      · refine ih _ _ _ _ h ⟨by omega, ?_⟩
        rw [List.length_append, List.length_singleton]; omega
theorem storedF_up {t : List Nat} {most p q : Nat} {out o : List UInt8} (h : storedF t most p out = .inr (q, o)) (u : UpS t most p out) : UpS t most q o := by
  rw [storedF] at h
  split at h
  · cases h
  · split at h
    · cases h
    · exact bytesF_up _ _ _ _ _ h ⟨by omega, u.2⟩
theorem numberF_up {t : List Nat} {l : List (Nat × Nat)} {i p q d : Nat} (h : numberF t l i p = .inr (q, d)) : q ≤ t.length := by
  rw [numberF] at h
  split at h
  · cases h
  · split at h
    · cases h
    · cases h; omega
theorem copyR_up {t : List Nat} {B : List (List Nat)} {most n p q : Nat} {out o : List UInt8} (h : copyR t B most n p out = .inr (q, o)) : UpS t most q o := by
  rw [copyR] at h
  split at h
  · cases h
  · split at h
    · cases h
    · rename_i e
      have := numberF_up e
      split at h
      · cases h
      · split at h
        · cases h
        · cases h
          refine ⟨this, ?_⟩
          rw [copyF_len]; omega
theorem blockS_up {t : List Nat} {A B : List (List Nat)} {most p q : Nat} {out o : List UInt8} {d : Bool} (h : blockS t A B most p out = .inr (q, o, d)) (u : UpS t most p out) : UpS t most q o := by
  rw [blockS] at h
  split at h
  · cases h
  · rename_i k v e
    have hk := rdW_up u.1 e
    split at h
    · cases h; exact ⟨hk, u.2⟩
    · split at h
      · split at h
        · cases h
        · cases h
          refine ⟨hk, ?_⟩
          rw [List.length_append, List.length_singleton]; omega
      · split at h
        · cases h
        · split at h
          · cases h
          · rename_i e2
            cases h
            exact copyR_up e2
theorem blockF_up {t : List Nat} {A B : List (List Nat)} {most : Nat} : ∀ (f p q : Nat) (out o : List UInt8), blockF t A B most f p out = .inr (q, o) → UpS t most p out → UpS t most q o := by
  intro f
  induction f with
  | zero => intro p q out o h; rw [blockF] at h; cases h
  | succ f ih =>
    intro p q out o h u
    rw [blockF] at h
    cases e : blockS t A B most p out with
    | inl e' => rw [e] at h; cases h
    | inr x =>
      obtain ⟨q1, o1, d⟩ := x
      rw [e] at h
      have h1 := blockS_up e u
      cases d with
      | true => simp only at h; cases h; exact h1
      | false => simp only at h; exact ih _ _ _ _ h h1
theorem blockL_up {t : List Nat} {la lb : List Nat} {how most p q : Nat} {out o : List UInt8} (h : blockL t la lb how most p out = .inr (q, o)) (u : UpS t most p out) : UpS t most q o := by
  rw [blockL] at h
  split at h
  · cases h
  · split at h
    · cases h
    · exact blockF_up _ _ _ _ _ h u
theorem metaF_up {t : List Nat} : ∀ (l : List Nat) (p q : Nat) (a b : List Nat), metaF t l p a = .inr (q, b) → p ≤ t.length → q ≤ t.length := by
  intro l
  induction l with
  | nil => intro p q a b h u; rw [metaF] at h; cases h; exact u
  | cons i l ih =>
    intro p q a b h u
    rw [metaF] at h
    split at h
    · cases h
    · exact ih _ _ _ _ h (by omega)
theorem lengthsF_up {t : List Nat} {W : List (List Nat)} {n : Nat} : ∀ (f : Nat) (all : List Nat) (p q : Nat) (l : List Nat), lengthsF t W n f all p = .inr (q, l) → p ≤ t.length → q ≤ t.length := by
  intro f
  induction f with
  | zero => intro all p q l h; rw [lengthsF] at h; cases h
  | succ f ih =>
    intro all p q l h u
    rw [lengthsF] at h
    by_cases hln : all.length < n
    · rw [if_pos hln] at h
      cases hr : rdW W [] (t.drop p) with
      | mk k r =>
      rw [hr] at h
      cases r with
      | inr e => cases h
      | inl v =>
        have hk := rdW_up u hr
        simp only at h
        by_cases h16 : v < 16
        · rw [if_pos h16] at h
          exact ih _ _ _ _ h hk
        · rw [if_neg h16] at h
          by_cases hb : v = 16 ∧ all = []
          · rw [if_pos hb] at h; cases h
          · rw [if_neg hb] at h
            generalize (if v = 16 then all.getD (all.length - 1) 0 else 0) = val at *
            generalize (if v = 16 then 2 else if v = 18 then 7 else 3) = wide at *
            generalize (if v = 18 then 11 else 3) = least at *
            by_cases hc : t.length < p + k + wide
            · rw [if_pos hc] at h; cases h
            · rw [if_neg hc] at h
              exact ih _ _ _ _ h (by omega)
    · rw [if_neg hln] at h
      split at h
      · cases h
      · cases h; exact u
theorem dynamicF_up {t : List Nat} {most p q : Nat} {out o : List UInt8} (h : dynamicF t most p out = .inr (q, o)) (u : UpS t most p out) : UpS t most q o := by
  rw [dynamicF] at h
  split at h
  · cases h
  · simp only at h
    split at h
    · cases h
    · split at h
      · cases h
      · rename_i e1
        have h1 := metaF_up _ _ _ _ _ e1 (by omega)
        split at h
        · cases h
        · split at h
          · cases h
          · rename_i e2
            have h2 := lengthsF_up _ _ _ _ _ e2 h1
            split at h
            · cases h
            · exact blockL_up h ⟨h2, u.2⟩
theorem partF_up {t : List Nat} {most hd p q : Nat} {out o : List UInt8} (h : partF t most hd p out = .inr (q, o)) (u : UpS t most p out) : UpS t most q o := by
  rw [partF] at h
  split at h
  · exact storedF_up h u
  · split at h
    · exact blockL_up h u
    · split at h
      · exact dynamicF_up h u
      · cases h
theorem inflF_up {t : List Nat} {most : Nat} : ∀ (f p q : Nat) (out o : List UInt8), inflF t most f p out = .inr (q, o) → UpS t most p out → UpS t most q o := by
  intro f
  induction f with
  | zero => intro p q out o h; rw [inflF] at h; cases h
  | succ f ih =>
    intro p q out o h u
    rw [inflF] at h
    split at h
    · cases h
    · cases e : partF t most (vl t p 3 / 2) (p + 3) out with
      | inl e' => rw [e] at h; cases h
      | inr x =>
        obtain ⟨q1, o1⟩ := x
        rw [e] at h
        have h1 := partF_up e ⟨by omega, u.2⟩
        simp only at h
        split at h
        · cases h; exact h1
        · exact ih _ _ _ _ h h1
theorem inflI_up {bs : List UInt8} {most : Int} {o : List UInt8} {n : Nat} (h : inflI bs most = .inr (o, n)) : n ≤ bs.length ∧ (o.length : Int) ≤ most := by
  rw [inflI] at h
  split at h
  · cases h
  · cases e : inflF (bitsL true bs) most.toNat (8 * bs.length + 1) 0 [] with
    | inl e' => rw [e] at h; cases h
    | inr x =>
      obtain ⟨q, o1⟩ := x
      rw [e] at h
      obtain ⟨h1, h2⟩ := inflF_up _ _ _ _ _ e ⟨by omega, by simp⟩
      cases h
      rw [length_bitsL] at h1
      exact ⟨by omega, by omega⟩
/-! ### Errors have numbers -/
theorem rdW_nz {W : List (List Nat)} {e : Nat} : ∀ (r s : List Nat) (k : Nat), rdW W s r = (k, .inr e) → e ≠ 0 := by
  intro r
  induction r with
  | nil => intro s k h; rw [rdW] at h; cases h; decide
  | cons c r ih =>
    intro s k h
    rw [rdW] at h
    split at h
    · cases h
    · split at h
      · exact ih _ _ h
      · cases h; decide
theorem bytesF_nz {t : List Nat} {most e : Nat} : ∀ (n p : Nat) (out : List UInt8), bytesF t most n p out = .inl e → e ≠ 0 := by
  intro n
  induction n with
  | zero => intro p out h; rw [bytesF] at h; cases h
  | succ n ih =>
    intro p out h
    rw [bytesF] at h
    split at h
    · cases h; decide
    · split at h
      · cases h; decide
      · exact ih _ _ h
theorem storedF_nz {t : List Nat} {most p e : Nat} {out : List UInt8} (h : storedF t most p out = .inl e) : e ≠ 0 := by
  rw [storedF] at h
  split at h
  · cases h; decide
  · split at h
    · cases h; decide
    · exact bytesF_nz _ _ _ h
theorem numberF_nz {t : List Nat} {l : List (Nat × Nat)} {i p e : Nat} (h : numberF t l i p = .inl e) : e ≠ 0 := by
  rw [numberF] at h
  split at h
  · cases h; decide
  · split at h
    · cases h; decide
    · cases h
theorem copyR_nz {t : List Nat} {B : List (List Nat)} {most n p e : Nat} {out : List UInt8} (h : copyR t B most n p out = .inl e) : e ≠ 0 := by
  rw [copyR] at h
  split at h
  · rename_i e1; cases h; exact rdW_nz _ _ _ e1
  · split at h
    · rename_i e2; cases h; exact numberF_nz e2
    · split at h
      · cases h; decide
      · split at h
        · cases h; decide
        · cases h
theorem blockS_nz {t : List Nat} {A B : List (List Nat)} {most p e : Nat} {out : List UInt8} (h : blockS t A B most p out = .inl e) : e ≠ 0 := by
  rw [blockS] at h
  split at h
  · rename_i e1; cases h; exact rdW_nz _ _ _ e1
  · split at h
    · cases h
    · split at h
      · split at h
        · cases h; decide
        · cases h
      · split at h
        · rename_i e2; cases h; exact numberF_nz e2
        · split at h
          · rename_i e2; cases h; exact copyR_nz e2
          · cases h
theorem blockF_nz {t : List Nat} {A B : List (List Nat)} {most e : Nat} : ∀ (f p : Nat) (out : List UInt8), blockF t A B most f p out = .inl e → e ≠ 0 := by
  intro f
  induction f with
  | zero => intro p out h; rw [blockF] at h; cases h; decide
  | succ f ih =>
    intro p out h
    rw [blockF] at h
    cases e1 : blockS t A B most p out with
    | inl e' => rw [e1] at h; cases h; exact blockS_nz e1
    | inr x =>
      obtain ⟨q1, o1, d⟩ := x
      rw [e1] at h
      cases d with
      | true => cases h
      | false => exact ih _ _ h
theorem blockL_nz {t : List Nat} {la lb : List Nat} {how most p e : Nat} {out : List UInt8} (h : blockL t la lb how most p out = .inl e) : e ≠ 0 := by
  rw [blockL] at h
  split at h
  · rename_i e1; cases h; exact wordsF_err e1
  · split at h
    · rename_i e1; cases h; exact wordsF_err e1
    · exact blockF_nz _ _ _ h
theorem metaF_nz {t : List Nat} {e : Nat} : ∀ (l : List Nat) (p : Nat) (a : List Nat), metaF t l p a = .inl e → e ≠ 0 := by
  intro l
  induction l with
  | nil => intro p a h; rw [metaF] at h; cases h
  | cons i l ih =>
    intro p a h
    rw [metaF] at h
    split at h
    · cases h; decide
    · exact ih _ _ h
theorem lengthsF_nz {t : List Nat} {W : List (List Nat)} {n e : Nat} : ∀ (f : Nat) (all : List Nat) (p : Nat), lengthsF t W n f all p = .inl e → e ≠ 0 := by
  intro f
  induction f with
  | zero => intro all p h; rw [lengthsF] at h; cases h; decide
  | succ f ih =>
    intro all p h
    rw [lengthsF] at h
    by_cases hln : all.length < n
    · rw [if_pos hln] at h
      cases hr : rdW W [] (t.drop p) with
      | mk k r =>
      rw [hr] at h
      cases r with
      | inr e => cases h; exact rdW_nz _ _ _ hr
      | inl v =>
        simp only at h
        by_cases h16 : v < 16
        · rw [if_pos h16] at h
          exact ih _ _ h
        · rw [if_neg h16] at h
          by_cases hb : v = 16 ∧ all = []
          · rw [if_pos hb] at h; cases h; decide
          · rw [if_neg hb] at h
            generalize (if v = 16 then all.getD (all.length - 1) 0 else 0) = val at *
            generalize (if v = 16 then 2 else if v = 18 then 7 else 3) = wide at *
            generalize (if v = 18 then 11 else 3) = least at *
            by_cases hc : t.length < p + k + wide
            · rw [if_pos hc] at h; cases h; decide
            · rw [if_neg hc] at h
              exact ih _ _ h
    · rw [if_neg hln] at h
      split at h
      · cases h; decide
      · cases h
theorem dynamicF_nz {t : List Nat} {most p e : Nat} {out : List UInt8} (h : dynamicF t most p out = .inl e) : e ≠ 0 := by
  rw [dynamicF] at h
  split at h
  · cases h; decide
  · simp only at h
    split at h
    · cases h; decide
    · split at h
      · rename_i e1; cases h; exact metaF_nz _ _ _ e1
      · split at h
        · rename_i e1; cases h; exact wordsF_err e1
        · split at h
          · rename_i e1; cases h; exact lengthsF_nz _ _ _ e1
          · split at h
            · cases h; decide
            · exact blockL_nz h
theorem partF_nz {t : List Nat} {most hd p e : Nat} {out : List UInt8} (h : partF t most hd p out = .inl e) : e ≠ 0 := by
  rw [partF] at h
  split at h
  · exact storedF_nz h
  · split at h
    · exact blockL_nz h
    · split at h
      · exact dynamicF_nz h
      · cases h; decide
theorem inflF_nz {t : List Nat} {most e : Nat} : ∀ (f p : Nat) (out : List UInt8), inflF t most f p out = .inl e → e ≠ 0 := by
  intro f
  induction f with
  | zero => intro p out h; rw [inflF] at h; cases h; decide
  | succ f ih =>
    intro p out h
    rw [inflF] at h
    split at h
    · cases h; decide
    · cases e1 : partF t most (vl t p 3 / 2) (p + 3) out with
      | inl e' => rw [e1] at h; cases h; exact partF_nz e1
      | inr x =>
        obtain ⟨q1, o1⟩ := x
        rw [e1] at h
        simp only at h
        split at h
        · cases h
        · exact ih _ _ h
theorem inflI_nz {bs : List UInt8} {most : Int} {e : Nat} (h : inflI bs most = .inl e) : e ≠ 0 := by
  rw [inflI] at h
  split at h
  · cases h; decide
  · cases e1 : inflF (bitsL true bs) most.toNat (8 * bs.length + 1) 0 [] with
    | inl e' => rw [e1] at h; cases h; exact inflF_nz _ _ _ e1
    | inr x =>
      obtain ⟨q, o1⟩ := x
      rw [e1] at h
      cases h
end Go.Proofs.YtddifndfppilkaaGreat

namespace Go.Proofs.YtddifndfppilkaaGreat
open Go.RowKit Go.Mz
set_option linter.unusedVariables false
set_option linter.unusedSimpArgs false
set_option maxRecDepth 100000

/-- Two bytes that don't begin a wrapping. -/
def zheadB (x y : Nat) : Bool := x % 16 != 8 || decide (7 < x / 16) || ((x * 256 + y) % 31 != 0) || (y / 32 % 2 == 1)
def zrest (r : List UInt8) (most : Int) : Nat ⊕ (List UInt8 × Nat) :=
  match inflI r most with
  | .inl e => .inl e
  | .inr (o, n) => if r.length < n + 4 then .inl 2 else if numH ((r.drop n).take 4) ≠ adlerN o then .inl 4 else .inr (o, n + 6)
/-- What a wrapping stands for. -/
def zopen (bs : List UInt8) (most : Int) : Nat ⊕ (List UInt8 × Nat) :=
  if most < 0 then .inl 1
  else match bs with
    | x :: y :: r => if zheadB x.toNat y.toNat then .inl 3 else zrest r most
    | _ => .inl 2
theorem and15 (x : Nat) (h : x < 256) : bits .and .u8 (x : Int) 15 = ((x % 16 : Nat) : Int) := by
  have := u8_and_nat x 15 h (by decide)
  rw [show x &&& 15 = x % 16 from Nat.and_two_pow_sub_one_eq_mod x 4] at this
  exact this
theorem and32 (x : Nat) (h : x < 256) : bits .and .u8 (x : Int) 32 = ((x / 32 % 2 * 32 : Nat) : Int) := by
  have := u8_and_nat x 32 h (by decide)
  have e : x &&& 32 = x / 32 % 2 * 32 := by
    have key : ∀ y : Fin 256, y.val &&& 32 = y.val / 32 % 2 * 32 := by decide
    exact key ⟨x, h⟩
  rw [e] at this
  exact this
theorem or_true4 {a b c d : Bool} (h : (a || b || c || d) = true) : a = true ∨ (a = false ∧ b = true) ∨ (a = false ∧ b = false ∧ c = true) ∨ (a = false ∧ b = false ∧ c = false ∧ d = true) := by
  cases a <;> cases b <;> cases c <;> cases d <;> simp_all
theorem star_z1 (A B C D : SProp) : A * (B * (C * D)) = B * (A * (C * D)) := by ac_rfl
set_option maxHeartbeats 40000000 in
theorem pack_any {w0 w : World} {F : SProp} (h : St w0 w F) {b : List UInt8} (hb : b.length ≤ 1000000) {v : Value} (hv : Stb w0 F (fun w => Reads w 1 v b.length (b.map bv))) {how : Nat} (hh : how ≤ 2) :
    Calls Tryz.prog 8 #[v, .int .i64 (how : Int)] w fun e w' => ∃ v' x z, e = .returned (.tuple #[v', .int .i64 0]) ∧ DefS b how x ∧ x.length ≤ 100000000 ∧ z = (120 : UInt8) :: 1 :: (bytesB true x ++ bytesO true (adlerN b) 4) ∧ St w0 w' (own 5 1 v' z.length (z.map bv) * F) := by
  have HD := Lib.hid (deflate_any h hb hv hh)
  have HV := Lib.hid hv
  clear h hv hh
  have T := elemBytes
  go_enter Tryz.func8, Tryz.ntmps8
  go_wp2_with (go_at_call 17; apply stop)
  refine on ?_
  refine HD.out.mono ?_
  rintro e w2 ⟨v2, x, rfl, hx, hxl, h2⟩
  have hXl := length_bytesB true x
  obtain ⟨X, hX⟩ : ∃ X, bytesB true x = X := ⟨_, rfl⟩
  rw [hX] at h2 hXl
  rw [← hXl] at h2
  have hXm : X.length ≤ 20000000 := by rw [hXl]; omega
  obtain ⟨nX, hnX⟩ : ∃ nX, X.length = nX := ⟨_, rfl⟩
  rw [hnX] at h2 hXm
  obtain ⟨a2, c2, rfl⟩ := h2.reads.sub
  have H2 := Lib.hid h2
  have HX := Lib.hid hx; have HNX := Lib.hid hnX; have HXX := Lib.hid hX
  clear h2 hx hnX hX hXl HD
  go_wp2_with (go_at_call 13; apply stop)
  refine on ?_
  refine (sum_any H2.out (HV.out.more _)).mono ?_
  rintro e w3 ⟨rfl, h3⟩
  have H3 := Lib.hid h3
  have HP := Lib.hid (put_ok h3 (v := adlerN b) (n := 4) (.inr (.inr (.inl rfl))) (adlerN_lt b) true)
  clear h3 H2
  have hlt := adlerN_lt b
  obtain ⟨ad, had⟩ : ∃ ad, adlerN b = ad := ⟨_, rfl⟩
  rw [had] at HP hlt ⊢
  have HAD := Lib.hid had
  clear had
  go_wp2_with (go_at_call 18; apply stop)
  refine on ?_
  refine HP.out.mono ?_
  rintro e w4 ⟨v4, rfl, h4⟩
  have hSl := length_bytesO true ad 4
  obtain ⟨S, hS⟩ : ∃ S, bytesO true ad 4 = S := ⟨_, rfl⟩
  rw [hS] at h4 hSl
  have HSS := Lib.hid hS
  clear hS
  obtain ⟨a4, c4, rfl⟩ := h4.reads.sub
  have H4 := Lib.hid h4; have HSL := Lib.hid hSl
  clear h4 H3 HP hSl
  go_wp2_with (at_builtin; apply stop)
  have h5 := H4.out.lit (([120, 1] : List UInt8).map bv).toArray 5 2 rfl (by decide)
  refine on (wpList_append_sep T rfl _ _ rfl rfl h5 rfl h5.right.right.reads (bv_oneCell X) (by unfold maxLen; omega) (by omega) ?_)
  intro v5 w5 h6 _
  obtain ⟨a5, c5, rfl⟩ := h6.reads.sub
  have H6 := Lib.hid h6
  clear h5 h6 H4
  go_wp2_with (at_builtin; apply stop)
  refine on (wpList_append_sep T rfl _ _ rfl rfl H6.out rfl H6.out.right.reads (bv_oneCell S) (by unfold maxLen; omega) (by omega) ?_)
  intro v7 w7 h7 _
  have H7 := Lib.hid h7
  clear h7 H6
  go_wp2_with fail
  go_ret2
  refine ⟨v7, x, 120 :: 1 :: (X ++ S), rfl, HX.out, hxl, by rw [HXX.out, HAD.out, HSS.out], ?_⟩
  have h8 := H7.out.perm (star_z1 _ _ _ _)
  have h9 := (H7.out.perm (star_left_comm _ _ _)).right
  have e1 : ([120, 1] : List UInt8).map bv ++ X.map bv ++ S.map bv = ((120 : UInt8) :: 1 :: (X ++ S)).map bv := by simp
  have e2 : 2 + nX + 4 = ((120 : UInt8) :: 1 :: (X ++ S)).length := by simp [HNX.out, HSL.out]; omega
  have h10 := h9.perm (star_left_comm _ _ _)
  rw [← e2, ← e1]
  exact h10.right
theorem pack_bad {w0 w : World} {F : SProp} (h : St w0 w F) {v : Value} {j : Int} (hj : j < 0 ∨ 2 < j) :
    Calls Tryz.prog 8 #[v, .int .i64 j] w fun e w' => e = .returned (.tuple #[.slice none 0 0, .int .i64 1]) ∧ St w0 w' F := by
  have HD := Lib.hid (deflate_bad (v := v) h hj)
  clear h hj
  go_enter Tryz.func8, Tryz.ntmps8
  go_wp2_with (go_at_call 17; apply stop)
  refine on ?_
  refine HD.out.mono ?_
  rintro e w2 ⟨rfl, h2⟩
  have H2 := Lib.hid h2
  clear h2
  go_wp2_with fail
  go_ret2
  exact ⟨rfl, H2.out⟩
set_option maxHeartbeats 40000000 in
theorem open_arg {w0 w : World} {F : SProp} (h : St w0 w F) {a : Option Addr} {L c : Nat} {most : Int} (hm : most < 0) :
    Calls Tryz.prog 6 #[.slice a L c, .int .i64 most] w fun e w' => e = .returned (.tuple #[.slice none 0 0, .int .i64 0, .int .i64 1]) ∧ St w0 w' F := by
  have H := Lib.hid h
  clear h
  go_enter Tryz.func6, Tryz.ntmps6
  go_wp2_with fail
  go_ret3
  exact ⟨rfl, H.out⟩
theorem open_short {w0 w : World} {F : SProp} (h : St w0 w F) {a : Option Addr} {L c : Nat} {most : Nat} (hL : L < 2) :
    Calls Tryz.prog 6 #[.slice a L c, .int .i64 (most : Int)] w fun e w' => e = .returned (.tuple #[.slice none 0 0, .int .i64 0, .int .i64 2]) ∧ St w0 w' F := by
  have H := Lib.hid h
  have hm : ¬ (most : Int) < 0 := by omega
  have hLI : (L : Int) < 2 := by omega
  clear h
  go_enter Tryz.func6, Tryz.ntmps6
  go_wp2_with fail
  go_ret3
  exact ⟨rfl, H.out⟩
set_option maxHeartbeats 40000000 in
theorem open_any {w0 w : World} {F : SProp} (h : St w0 w F) (bs : List UInt8) (most : Int) (hl : bs.length ≤ 100000000) (hm : most ≤ 10000000000000) {vb : Value} (hv : Stb w0 F (fun w => Reads w 1 vb bs.length (bs.map bv))) :
    Calls Tryz.prog 6 #[vb, .int .i64 most] w fun e w' => ∃ (v : Value) (n x : Nat), e = .returned (.tuple #[v, .int .i64 n, .int .i64 x]) ∧ InfR (zopen bs most) v n x w0 w' F := by
  obtain ⟨ab, cb, rfl⟩ := (hv w h).sub
  by_cases hneg : most < 0
  · refine (open_arg h hneg).mono ?_
    rintro e w2 ⟨rfl, h2⟩
    exact ⟨_, 0, 1, rfl, by unfold zopen; rw [if_pos hneg]; exact ⟨rfl, rfl, rfl, by decide, h2⟩⟩
  obtain ⟨M, rfl⟩ : ∃ M : Nat, most = M := ⟨most.toNat, by omega⟩
  rcases bs with _ | ⟨XY, _ | ⟨YY, r⟩⟩
  · refine (open_short h (by simp)).mono ?_
    rintro e w2 ⟨rfl, h2⟩
    exact ⟨_, 0, 2, rfl, by unfold zopen; rw [if_neg hneg]; exact ⟨rfl, rfl, rfl, by decide, h2⟩⟩
  · refine (open_short h (by simp)).mono ?_
    rintro e w2 ⟨rfl, h2⟩
    exact ⟨_, 0, 2, rfl, by unfold zopen; rw [if_neg hneg]; exact ⟨rfl, rfl, rfl, by decide, h2⟩⟩
  have hres : zopen (XY :: YY :: r) M = if zheadB XY.toNat YY.toNat then .inl 3 else zrest r M := by rw [zopen, if_neg hneg]
  rw [hres]
  clear hres hneg
  obtain ⟨n, hn⟩ : ∃ n, r.length = n := ⟨_, rfl⟩
  have hlen : (XY :: YY :: r).length = n + 2 := by rw [List.length_cons, List.length_cons, hn]
  have hcap := (rd_cap (hv w h)).1
  have hcap2 := (rd_cap (hv w h)).2
  unfold maxLen at hcap2
  rw [hlen] at hv hl hcap
  rw [hlen]
  obtain ⟨b, off, rfl, k0⟩ := (hv w h).at_ (j := 0) (by omega)
  obtain ⟨b', off', e, k1⟩ := (hv w h).at_ (j := 1) (by omega)
  cases e
  replace k0 : w.cell? ⟨b, off, none⟩ = some (.int .u8 (XY.toNat : Int)) := k0
  replace k1 : w.cell? ⟨b, off + 1, none⟩ = some (.int .u8 (YY.toNat : Int)) := k1
  have hx8 := UInt8.toNat_lt XY; have hy8 := UInt8.toNat_lt YY
  have HV := Lib.hid hv; have H := Lib.hid h; have HN := Lib.hid hn; have HLEN := Lib.hid hlen
  clear hv h hn hlen
  have HDROP : Hid (∀ W, St w0 W F → Reads W 1 (.slice (some ⟨b, off + 2, none⟩) n (cb - 2)) n (r.map bv)) := Lib.hid fun W hW => by
    have := rd_sub (HV.out W hW) (i := 2) (j := n + 2) (by omega) (by omega)
    rw [Nat.add_sub_cancel, Addr.add_lit] at this
    have e : ((((XY :: YY :: r).map bv).drop 2).take n) = r.map bv := by
      simp only [List.map_cons, List.drop_succ_cons, List.drop_zero]
      rw [List.take_of_length_le (by rw [List.length_map, HN.out]; exact Nat.le_refl _)]
    rw [e] at this
    exact this
  generalize XY.toNat = x at *
  generalize YY.toNat = y at *
  have hz0 : (0 : Int) < ((n + 2 : Nat) : Int) := by omega
  have hz1 : (1 : Int) < ((n + 2 : Nat) : Int) := by omega
  have hMn : ¬ (M : Int) < 0 := by omega
  have hn2 : ¬ ((n + 2 : Nat) : Int) < 2 := by omega
  obtain ⟨L, hL⟩ : ∃ L, n + 2 = L := ⟨_, rfl⟩
  rw [hL] at HV HLEN hl hcap hz0 hz1 hn2 ⊢
  have HL := Lib.hid hL
  clear hL
  have hz0N : 0 < L := by omega
  have hz1N : 1 < L := by omega
  have a15 := and15 x hx8
  have a32 := and32 y hy8
  by_cases hbad : zheadB x y = true
  · rw [hbad, if_pos rfl]
    have HB := Lib.hid (or_true4 hbad)
    clear hbad
    have fin : ∀ W, (∃ m, W = w.drewN m) → St w0 W F := fun W ⟨m, hm⟩ => by rw [hm]; exact H.out.drewN m
    have FIN := Lib.hid fin; clear fin
    obtain hA | ⟨hA, hB⟩ | ⟨hA, hB, hC⟩ | ⟨hA, hB, hC, hD⟩ := HB.out
    · have eA : ((x : Int) % 16 != 8) = true := by simp at hA ⊢; omega
      clear hA
      go_enter Tryz.func6, Tryz.ntmps6
      go_upto_region 5 with (fail)
      go_quiet (fail)
      go_wp2_with fail
      go_ret3
      exact ⟨_, 0, 3, rfl, rfl, rfl, rfl, by decide, FIN.out _ ⟨_, rfl⟩⟩
    · have eA : ((x : Int) % 16 != 8) = false := by simp at hA ⊢; omega
      have eB : decide ((7 : Int) < (x : Int) / 16) = true := by simp at hB ⊢; omega
      clear hA hB
      go_enter Tryz.func6, Tryz.ntmps6
      go_upto_region 5 with (fail)
      go_quiet (fail)
      go_wp2_with fail
      go_ret3
      exact ⟨_, 0, 3, rfl, rfl, rfl, rfl, by decide, FIN.out _ ⟨_, rfl⟩⟩
    · have eA : ((x : Int) % 16 != 8) = false := by simp at hA ⊢; omega
      have eB : decide ((7 : Int) < (x : Int) / 16) = false := by simp at hB ⊢; omega
      have eC : (((x : Int) * 256 + (y : Int)) % 31 != 0) = true := by simp at hC ⊢; omega
      clear hA hB hC
      go_enter Tryz.func6, Tryz.ntmps6
      go_upto_region 5 with (fail)
      go_quiet (fail)
      go_wp2_with fail
      go_ret3
      exact ⟨_, 0, 3, rfl, rfl, rfl, rfl, by decide, FIN.out _ ⟨_, rfl⟩⟩
    · have eA : ((x : Int) % 16 != 8) = false := by simp at hA ⊢; omega
      have eB : decide ((7 : Int) < (x : Int) / 16) = false := by simp at hB ⊢; omega
      have eC : (((x : Int) * 256 + (y : Int)) % 31 != 0) = false := by simp at hC ⊢; omega
      have eD : ((y : Int) / 32 % 2 * 32 != 0) = true := by simp at hD ⊢; omega
      clear hA hB hC hD
      go_enter Tryz.func6, Tryz.ntmps6
      go_upto_region 5 with (fail)
      go_quiet (fail)
      go_wp2_with fail
      go_ret3
      exact ⟨_, 0, 3, rfl, rfl, rfl, rfl, by decide, FIN.out _ ⟨_, rfl⟩⟩
  · rw [if_neg hbad]
    have hA : (x % 16 != 8) = false ∧ decide (7 < x / 16) = false ∧ ((x * 256 + y) % 31 != 0) = false ∧ (y / 32 % 2 == 1) = false := by
      unfold zheadB at hbad
      revert hbad
      cases (x % 16 != 8) <;> cases decide (7 < x / 16) <;> cases ((x * 256 + y) % 31 != 0) <;> cases (y / 32 % 2 == 1) <;> simp
    obtain ⟨hA, hB, hC, hD⟩ := hA
    clear hbad
    have eA : ((x : Int) % 16 != 8) = false := by simp at hA ⊢; omega
    have eB : decide ((7 : Int) < (x : Int) / 16) = false := by simp at hB ⊢; omega
    have eC : (((x : Int) * 256 + (y : Int)) % 31 != 0) = false := by simp at hC ⊢; omega
    have eD : ((y : Int) / 32 % 2 * 32 != 0) = false := by simp at hD ⊢; omega
    clear hA hB hC hD
    go_enter Tryz.func6, Tryz.ntmps6
    go_upto_region 5 with (fail)
    go_quiet (fail)
    have HI := Lib.hid (fun (W : World) (hW : St w0 W F) (vb : Value) (hvb : Stb w0 F (fun w => Reads w 1 vb n (r.map bv))) => inflate_any hW r (M : Int) (by rw [HN.out]; have := HL.out; omega) (by omega) (vb := vb) (by rw [HN.out]; exact hvb))
    have H' := Lib.hid (H.out.drewN nq)
    clear a15 a32 eA eB eC eD
    generalize w.drewN nq = wq at *
    by_cases hc2 : cb = 2
    · subst hc2
      have RZ : Hid (∀ (W : World) (a : Option Addr), Reads W 1 (.slice a 0 0) n (r.map bv)) := Lib.hid fun W a => by
        have e0 : n = 0 := by have := HL.out; omega
        have hr : r = [] := List.eq_nil_of_length_eq_zero (by rw [HN.out]; exact e0)
        rw [e0, hr]; exact rd_nil W a
      have hL2 : L - 2 = 0 := by have := HL.out; omega
      go_wp2_with (go_at_call 11; apply stop)
      refine on ?_
      refine (HI.out _ H'.out _ (fun W hW => RZ.out W _)).mono ?_
      rintro e w2 ⟨v2, n2, x2, rfl, h2⟩
      have hzr : zrest r (M : Int) = match inflI r (M : Int) with
          | .inl e => .inl e
          | .inr (o, n) => if r.length < n + 4 then .inl 2 else if numH ((r.drop n).take 4) ≠ adlerN o then .inl 4 else .inr (o, n + 6) := rfl
      cases hI : inflI r (M : Int) with
      | inl ee =>
        rw [hI] at h2 hzr
        obtain ⟨rfl, rfl, rfl, hne, h2⟩ := h2
        have hneI : ((x2 : Int) != 0) = true := by simp; omega
        have H2 := Lib.hid h2; have HZ := Lib.hid hzr; have HNE := Lib.hid hne
        clear h2 hzr hI hne
        go_wp2_with fail
        go_ret3
        exact ⟨_, 0, x2, rfl, by rw [HZ.out]; exact ⟨rfl, rfl, rfl, HNE.out, H2.out⟩⟩
      | inr z =>
        obtain ⟨o, k⟩ := z
        rw [hI] at h2 hzr
        obtain ⟨hk1, hk2⟩ := inflI_up hI
        obtain ⟨hn2k, rfl, h2⟩ := h2
        rw [hn2k]
        clear hn2k n2
        rw [HN.out] at hk1 hzr
        have hon := h2.reads.len_le
        obtain ⟨a2, c2, rfl⟩ := h2.reads.sub
        have H2 := Lib.hid h2; have HZ := Lib.hid hzr
        clear h2 hzr hI hon
        obtain ⟨p, hp⟩ : ∃ p, 2 + k = p := ⟨_, rfl⟩
        have hpI : (2 : Int) + (k : Int) = (p : Int) := by omega
        have hp9 : p ≤ 1000000000 := by have := HL.out; omega
        have hk9 : k ≤ 1000000000 := by omega
        by_cases hs : n < k + 4
        · have HG := Lib.hid (get_cut H2.out (a := some ⟨b, off, none⟩) (L := L) (c := 2) (p := p) (n := 4) (by have := HL.out; omega) (by omega) (by omega) (.inr (.inr (.inl rfl))) true)
          clear hp
          go_wp2_with (go_at_call 12; apply stop)
          refine on ?_
          refine HG.out.mono ?_
          rintro e w3 ⟨rfl, h3⟩
          have H3 := Lib.hid h3
          clear h3
          go_wp2_with fail
          go_ret3
          exact ⟨_, 0, 2, rfl, by rw [HZ.out]; simp only; rw [if_pos hs]; exact ⟨rfl, rfl, rfl, by decide, H3.out.right⟩⟩
        · have hbl := HLEN.out
          have G := get_ok (bs := XY :: YY :: r) (v := .slice (some ⟨b, off, none⟩) L 2) H2.out (by rw [hbl]; exact HV.out.more _) (p := p) (n := 4) (by rw [hbl]; have := HL.out; omega) (by rw [hbl]; omega) (.inr (.inr (.inl rfl))) true
          have eN : numO true (((XY :: YY :: r).drop p).take 4) = numH ((r.drop k).take 4) := by
            rw [← hp, Nat.add_comm 2 k]; rfl
          rw [eN] at G
          have hlt : numH ((r.drop k).take 4) < 4294967296 := by
            have h1 := numH_lt ((r.drop k).take 4)
            rw [List.length_take, List.length_drop, HN.out, Nat.min_eq_left (by omega)] at h1
            exact h1
          have hadl := adlerN_lt o
          obtain ⟨sm, hsm⟩ : ∃ sm, numH ((r.drop k).take 4) = sm := ⟨_, rfl⟩
          rw [hsm] at G hlt
          have HG := Lib.hid G; have HSM := Lib.hid hsm
          clear G hsm hp hbl eN
          go_wp2_with (go_at_call 12; apply stop)
          refine on ?_
          refine HG.out.mono ?_
          rintro e w3 ⟨rfl, h3⟩
          have HS := Lib.hid (sum_any h3 Stb.of_own)
          clear h3
          obtain ⟨ad, had⟩ : ∃ ad, adlerN o = ad := ⟨_, rfl⟩
          rw [had] at HS hadl
          have HAD := Lib.hid had
          clear had
          by_cases he : sm = ad
          · have heI : ((sm : Int) != (ad : Int)) = false := by simp; omega
            go_wp2_with (go_at_call 13; apply stop)
            refine on ?_
            refine HS.out.mono ?_
            rintro e w4 ⟨rfl, h4⟩
            have H4 := Lib.hid h4
            have HE := Lib.hid he
            clear h4 he
            go_wp2_with fail
            go_ret3
            refine ⟨_, k + 6, 0, rfl, ?_⟩
            rw [HZ.out]
            simp only
            rw [if_neg hs, if_neg (by rw [HSM.out, HAD.out]; exact fun h => h HE.out)]
            exact ⟨rfl, rfl, H4.out⟩
          · have heI : ((sm : Int) != (ad : Int)) = true := by simp; omega
            go_wp2_with (go_at_call 13; apply stop)
            refine on ?_
            refine HS.out.mono ?_
            rintro e w4 ⟨rfl, h4⟩
            have H4 := Lib.hid h4
            have HE := Lib.hid he
            clear h4 he
            go_wp2_with fail
            go_ret3
            refine ⟨_, 0, 4, rfl, ?_⟩
            rw [HZ.out]
            simp only
            rw [if_neg hs, if_pos (by rw [HSM.out, HAD.out]; exact HE.out)]
            exact ⟨rfl, rfl, rfl, by decide, H4.out.right⟩
    · have hLn : L - 2 = n := by have := HL.out; omega
      go_wp2_with (go_at_call 11; apply stop)
      refine on ?_
      refine (HI.out _ H'.out _ (fun W hW => HDROP.out W hW)).mono ?_
      rintro e w2 ⟨v2, n2, x2, rfl, h2⟩
      have hzr : zrest r (M : Int) = match inflI r (M : Int) with
          | .inl e => .inl e
          | .inr (o, n) => if r.length < n + 4 then .inl 2 else if numH ((r.drop n).take 4) ≠ adlerN o then .inl 4 else .inr (o, n + 6) := rfl
      cases hI : inflI r (M : Int) with
      | inl ee =>
        rw [hI] at h2 hzr
        obtain ⟨rfl, rfl, rfl, hne, h2⟩ := h2
        have hneI : ((x2 : Int) != 0) = true := by simp; omega
        have H2 := Lib.hid h2; have HZ := Lib.hid hzr; have HNE := Lib.hid hne
        clear h2 hzr hI hne
        go_wp2_with fail
        go_ret3
        exact ⟨_, 0, x2, rfl, by rw [HZ.out]; exact ⟨rfl, rfl, rfl, HNE.out, H2.out⟩⟩
      | inr z =>
        obtain ⟨o, k⟩ := z
        rw [hI] at h2 hzr
        obtain ⟨hk1, hk2⟩ := inflI_up hI
        obtain ⟨hn2k, rfl, h2⟩ := h2
        rw [hn2k]
        clear hn2k n2
        rw [HN.out] at hk1 hzr
        have hon := h2.reads.len_le
        obtain ⟨a2, c2, rfl⟩ := h2.reads.sub
        have H2 := Lib.hid h2; have HZ := Lib.hid hzr
        clear h2 hzr hI hon
        obtain ⟨p, hp⟩ : ∃ p, 2 + k = p := ⟨_, rfl⟩
        have hpI : (2 : Int) + (k : Int) = (p : Int) := by omega
        have hp9 : p ≤ 1000000000 := by have := HL.out; omega
        have hk9 : k ≤ 1000000000 := by omega
        by_cases hs : n < k + 4
        · have HG := Lib.hid (get_cut H2.out (a := some ⟨b, off, none⟩) (L := L) (c := cb) (p := p) (n := 4) (by have := HL.out; omega) (by omega) (by omega) (.inr (.inr (.inl rfl))) true)
          clear hp
          go_wp2_with (go_at_call 12; apply stop)
          refine on ?_
          refine HG.out.mono ?_
          rintro e w3 ⟨rfl, h3⟩
          have H3 := Lib.hid h3
          clear h3
          go_wp2_with fail
          go_ret3
          exact ⟨_, 0, 2, rfl, by rw [HZ.out]; simp only; rw [if_pos hs]; exact ⟨rfl, rfl, rfl, by decide, H3.out.right⟩⟩
        · have hbl := HLEN.out
          have G := get_ok (bs := XY :: YY :: r) (v := .slice (some ⟨b, off, none⟩) L cb) H2.out (by rw [hbl]; exact HV.out.more _) (p := p) (n := 4) (by rw [hbl]; have := HL.out; omega) (by rw [hbl]; omega) (.inr (.inr (.inl rfl))) true
          have eN : numO true (((XY :: YY :: r).drop p).take 4) = numH ((r.drop k).take 4) := by
            rw [← hp, Nat.add_comm 2 k]; rfl
          rw [eN] at G
          have hlt : numH ((r.drop k).take 4) < 4294967296 := by
            have h1 := numH_lt ((r.drop k).take 4)
            rw [List.length_take, List.length_drop, HN.out, Nat.min_eq_left (by omega)] at h1
            exact h1
          have hadl := adlerN_lt o
          obtain ⟨sm, hsm⟩ : ∃ sm, numH ((r.drop k).take 4) = sm := ⟨_, rfl⟩
          rw [hsm] at G hlt
          have HG := Lib.hid G; have HSM := Lib.hid hsm
          clear G hsm hp hbl eN
          go_wp2_with (go_at_call 12; apply stop)
          refine on ?_
          refine HG.out.mono ?_
          rintro e w3 ⟨rfl, h3⟩
          have HS := Lib.hid (sum_any h3 Stb.of_own)
          clear h3
          obtain ⟨ad, had⟩ : ∃ ad, adlerN o = ad := ⟨_, rfl⟩
          rw [had] at HS hadl
          have HAD := Lib.hid had
          clear had
          by_cases he : sm = ad
          · have heI : ((sm : Int) != (ad : Int)) = false := by simp; omega
            go_wp2_with (go_at_call 13; apply stop)
            refine on ?_
            refine HS.out.mono ?_
            rintro e w4 ⟨rfl, h4⟩
            have H4 := Lib.hid h4
            have HE := Lib.hid he
            clear h4 he
            go_wp2_with fail
            go_ret3
            refine ⟨_, k + 6, 0, rfl, ?_⟩
            rw [HZ.out]
            simp only
            rw [if_neg hs, if_neg (by rw [HSM.out, HAD.out]; exact fun h => h HE.out)]
            exact ⟨rfl, rfl, H4.out⟩
          · have heI : ((sm : Int) != (ad : Int)) = true := by simp; omega
            go_wp2_with (go_at_call 13; apply stop)
            refine on ?_
            refine HS.out.mono ?_
            rintro e w4 ⟨rfl, h4⟩
            have H4 := Lib.hid h4
            have HE := Lib.hid he
            clear h4 he
            go_wp2_with fail
            go_ret3
            refine ⟨_, 0, 4, rfl, ?_⟩
            rw [HZ.out]
            simp only
            rw [if_neg hs, if_pos (by rw [HSM.out, HAD.out]; exact HE.out)]
            exact ⟨rfl, rfl, rfl, by decide, H4.out.right⟩
end Go.Proofs.YtddifndfppilkaaGreat

namespace Go.Proofs.YtddifndfppilkaaGreat
open Go.RowKit Go.Mz
set_option linter.unusedVariables false
set_option linter.unusedSimpArgs false
set_option maxRecDepth 10000

theorem numH_cons (c : UInt8) (l : List UInt8) : numH (c :: l) = c.toNat * 256 ^ l.length + numH l := by
  have key : ∀ r : List UInt8, numH (c :: r.reverse) = c.toNat * 256 ^ r.length + numH r.reverse := by
    intro r
    induction r with
    | nil => simp [numH]
    | cons d r ih =>
      rw [List.reverse_cons, ← List.cons_append, numH_snoc, ih, numH_snoc, List.length_cons, Nat.pow_succ, Nat.add_mul, Nat.mul_assoc, Nat.add_assoc]
  have := key l.reverse
  rwa [List.reverse_reverse, List.length_reverse] at this
theorem numH_bytes (v : Nat) : ∀ n, numH (bytesL v n).reverse = v % 256 ^ n := by
  intro n
  induction n with
  | zero => simp [bytesL, numH, Nat.mod_one]
  | succ n ih =>
    rw [bytesL, List.reverse_append]
    show numH (UInt8.ofNat (v / 256 ^ n % 256) :: (bytesL v n).reverse) = _
    rw [numH_cons, ih, List.length_reverse, length_bytesL, UInt8.toNat_ofNat', show v / 256 ^ n % 256 % 2 ^ 8 = v / 256 ^ n % 256 by omega, Nat.pow_succ, Nat.mod_mul, Nat.mul_comm, Nat.add_comm]
theorem numH_put {v n : Nat} (h : v < 256 ^ n) : numH (bytesO true v n) = v := by
  rw [bytesO, cond, numH_bytes, Nat.mod_eq_of_lt h]
theorem numH_inj : ∀ {l m : List UInt8}, l.length = m.length → numH l = numH m → l = m := by
  intro l
  induction l with
  | nil => intro m h _; exact (List.eq_nil_of_length_eq_zero h.symm).symm
  | cons c l ih =>
    intro m h e
    cases m with
    | nil => simp at h
    | cons d m =>
      have hl : l.length = m.length := by simpa using h
      rw [numH_cons, numH_cons, hl] at e
      have h1 := numH_lt l; have h2 := numH_lt m
      rw [hl] at h1
      have hp : 0 < 256 ^ m.length := Nat.pow_pos (by decide)
      have hc : c.toNat = d.toNat := by
        have e1 : (c.toNat * 256 ^ m.length + numH l) / 256 ^ m.length = c.toNat := by
          rw [Nat.add_comm, Nat.add_mul_div_right _ _ hp, Nat.div_eq_of_lt h1, Nat.zero_add]
        have e2 : (d.toNat * 256 ^ m.length + numH m) / 256 ^ m.length = d.toNat := by
          rw [Nat.add_comm, Nat.add_mul_div_right _ _ hp, Nat.div_eq_of_lt h2, Nat.zero_add]
        rw [← e1, ← e2, e]
      rw [hc] at e
      rw [UInt8.toNat_inj.1 hc, ih hl (by omega)]
/-- A wrapping, with whatever sum. -/
def wrapS (x : List Nat) (S : List UInt8) : List UInt8 := (120 : UInt8) :: 1 :: (bytesB true x ++ S)
theorem length_wrapS (x : List Nat) (S : List UInt8) : (wrapS x S).length = (bytesB true x).length + S.length + 2 := by simp [wrapS]
theorem zopen_head (r : List UInt8) {most : Int} (h : ¬ most < 0) : zopen (120 :: 1 :: r) most = zrest r most := by
  show (if most < 0 then _ else if zheadB 120 1 then _ else _) = _
  rw [if_neg h, if_neg (by decide)]
theorem zopen_wrap {b : List UInt8} {x : List Nat} {n : Nat} (h : DoneS b x n) {S : List UInt8} (hS : S.length = 4) (ex : List UInt8) (most : Int) :
    zopen (wrapS x S ++ ex) most = if most < 0 then .inl 1 else if most.toNat < b.length then .inl 8 else if numH S ≠ adlerN b then .inl 4 else .inr (b, (wrapS x S).length) := by
  by_cases h0 : most < 0
  · rw [if_pos h0]
    show (if most < 0 then _ else _) = _
    rw [if_pos h0]
  rw [if_neg h0]
  show zopen (120 :: 1 :: ((bytesB true x ++ S) ++ ex)) most = _
  rw [zopen_head _ h0, zrest, List.append_assoc, h.infl, if_neg h0]
  by_cases h1 : most.toNat < b.length
  · rw [if_pos h1, if_pos h1]
  · rw [if_neg h1, if_neg h1]
    simp only
    rw [if_neg (by simp [hS] <;> omega), List.drop_left, show (S ++ ex).take 4 = S by rw [← hS, List.take_left], length_wrapS, hS]
theorem zopen_cut {b : List UInt8} {x : List Nat} {n : Nat} (h : DoneS b x n) {S : List UInt8} (hS : S.length = 4) {m : Nat} (hm : m < (wrapS x S).length) (most : Int) (hb : (b.length : Int) ≤ most) :
    zopen ((wrapS x S).take m) most = .inl 2 := by
  have h0 : ¬ most < 0 := by omega
  rw [length_wrapS, hS] at hm
  match m, hm with
  | 0, _ => show (if most < 0 then _ else _) = _; rw [if_neg h0]; rfl
  | 1, _ => show (if most < 0 then _ else _) = _; rw [if_neg h0]; rfl
  | k + 2, hm =>
    show zopen (120 :: 1 :: ((bytesB true x ++ S).take k)) most = _
    rw [zopen_head _ h0, zrest]
    by_cases hk : k < (bytesB true x).length
    · rw [List.take_append_of_le_length (by omega), h.short hk most hb]
    · rw [List.take_append, List.take_of_length_le (by omega), h.infl, if_neg h0, if_neg (by omega)]
      simp only
      rw [if_pos (by rw [List.length_append, List.length_take, hS]; omega)]
/-- A byte with a bit turned. -/
theorem xor_bit (c : UInt8) {t : Nat} (ht : t < 8) : ∃ d : UInt8, d ≠ c ∧ bits .xor .u8 (c.toNat : Int) ((2 : Int) ^ t % 256) = (d.toNat : Int) := by
  have key : ∀ t : Fin 8, ∀ c : Fin 256, bits .xor .u8 (c.val : Int) ((2 : Int) ^ t.val % 256) = ((c.val ^^^ 2 ^ t.val : Nat) : Int) ∧ c.val ^^^ 2 ^ t.val < 256 ∧ c.val ^^^ 2 ^ t.val ≠ c.val := by decide +kernel
  obtain ⟨h1, h2, h3⟩ := key ⟨t, ht⟩ ⟨c.toNat, UInt8.toNat_lt c⟩
  refine ⟨UInt8.ofNat (c.toNat ^^^ 2 ^ t), fun e => h3 ?_, ?_⟩
  · have := congrArg UInt8.toNat e
    rw [UInt8.toNat_ofNat'] at this
    simp only at h2 ⊢
    omega
  · simp only at h1 h2
    rw [h1, UInt8.toNat_ofNat']
    congr 1; omega
theorem numH_turned {S : List UInt8} {j : Nat} {d : UInt8} (hj : j < S.length) (hd : d ≠ S[j]) : numH (S.set j d) ≠ numH S := by
  intro e
  have := numH_inj (by simp) e
  have h1 : (S.set j d)[j]? = some d := by rw [List.getElem?_set, if_pos rfl, if_pos hj]
  rw [this, List.getElem?_eq_getElem hj] at h1
  exact hd (Option.some.inj h1).symm
end Go.Proofs.YtddifndfppilkaaGreat

namespace Go.Proofs.YtddifndfppilkaaGreat
open Go.RowKit Go.Mz
set_option linter.unusedVariables false
set_option linter.unusedSimpArgs false
set_option maxRecDepth 100000

set_option maxHeartbeats 40000000 in
theorem lives11 {w0 w : World} {F : SProp} (h : St w0 w F) :
    Calls Tryz.prog 5 #[] w fun e w' => e = .returned (.bool true) ∧ St w0 w' F := by
  have H := Lib.hid h
  clear h
  go_enter Tryz.func5, Tryz.ntmps5
  go_wp2_with (go_at_call 8; apply stop)
  refine on ?_
  refine (pack_any H.out (b := []) (by decide) (v := .slice none 0 0) (fun w h => ⟨rfl, .inl ⟨rfl, rfl⟩⟩) (how := 0) (by omega)).mono ?_
  rintro e w2 ⟨v1, x, z, rfl, hx, hxl, hz, h2⟩
  obtain ⟨nn, hdone⟩ := hx.done
  have hw := zopen_wrap hdone (S := bytesO true (adlerN []) 4) (length_bytesO _ _ _) [] 0
  obtain rfl := stored_nil hx
  rw [List.append_nil, if_neg (by decide), if_neg (by decide), if_neg (by decide +kernel)] at hw
  have hzz : z = [120, 1, 1, 0, 0, 255, 255, 0, 0, 0, 1] := by rw [hz]; decide +kernel
  have hzw : wrapS (headL true 0 ++ storedL 3 []) (bytesO true (adlerN []) 4) = z := by rw [hz]; rfl
  rw [hzw, hzz] at hw
  subst hzz
  clear hzw hz hx hxl H hdone
  obtain ⟨a1, c1, rfl⟩ := h2.reads.sub
  have C := open_any h2 [120, 1, 1, 0, 0, 255, 255, 0, 0, 0, 1] 0 (by decide) (by decide) (vb := .slice a1 11 c1) Stb.of_own
  rw [hw] at C
  have HC := Lib.hid C
  clear C hw h2
  go_wp2_with (go_at_call 6; apply stop)
  refine on ?_
  refine HC.out.mono ?_
  rintro e w3 ⟨v3, n3, x3, rfl, h3⟩
  obtain ⟨rfl, rfl, h3⟩ := h3
  obtain ⟨a3, c3, rfl⟩ := h3.reads.sub
  have q1 : (convert 22 9 (.slice a1 11 c1)).run Tryz.prog w3 = .ok (.string ⟨([120, 1, 1, 0, 0, 255, 255, 0, 0, 0, 1] : List UInt8).toArray⟩) w3 := run_b2s (P := Tryz.prog) Tryz.underlying22 Tryz.underlying5 Tryz.underlying9 h3.right.reads
  have H3 := Lib.hid h3.right.right
  clear h3 HC
  go_wp2_with fail
  go_ret
  exact ⟨rfl, H3.out⟩
end Go.Proofs.YtddifndfppilkaaGreat
