/-
  Parts of a proof.
-/
import Derived.Test.YtboflbdniogcdaaGreatDoorK19
import Derived.Test.YtboflbdniogcdaaGreatDoorK20
import Derived.Deep.LoopGhost
import Derived.Test.YtboflbdniogcdaaGreatDoorK14
import Derived.Test.YtboflbdniogcdaaGreatDoorK15
import Derived.Deep.QuietTactic
import Derived.BigQuiet
import Derived.Test.YtboflbdniogcdaaGreatDoorK05
namespace Go.Proofs.YtboflbdniogcdaaGreatDoor
open Go.RowKit Go.Mz
set_option linter.unusedVariables false
set_option linter.unusedSimpArgs false
set_option maxRecDepth 100000
def placesL (n : Nat) : List Nat := List.replicate (n / 2560) 103 ++ ((if 64 ≤ n % 2560 then [63 + n % 2560 / 64] else []) ++ [n % 2560 % 64])
def tellB (black : Bool) (n : Nat) : List Nat := kbits (faxW black) (placesL n)
theorem placesL_great {n : Nat} (h : 2560 ≤ n) : placesL n = 103 :: placesL (n - 2560) := by
 have e1 : n / 2560 = (n - 2560) / 2560 + 1 := by omega
 have e2 : n % 2560 = (n - 2560) % 2560 := by omega
 rw [placesL, placesL, e1, e2, List.replicate_succ]; rfl
theorem placesL_more {n : Nat} (h : n < 2560) (h2 : 64 ≤ n) : placesL n = (63 + n / 64) :: placesL (n % 64) := by
 have e1 : n / 2560 = 0 := by omega
 have e2 : n % 2560 = n := by omega
 have e3 : n % 64 / 2560 = 0 := by omega
 have e4 : n % 64 % 2560 = n % 64 := by omega
 have e5 : n % 64 % 64 = n % 64 := by omega
 rw [placesL, placesL, e1, e2, e3, e4, e5, if_pos h2, if_neg (by omega)]; rfl
theorem placesL_less {n : Nat} (h : n < 64) : placesL n = [n] := by
 have e1 : n / 2560 = 0 := by omega
 have e2 : n % 2560 = n := by omega
 have e5 : n % 64 = n := by omega
 rw [placesL, e1, e2, e5, if_neg (by omega)]; rfl
theorem placesL_lt {n : Nat} : ∀ i ∈ placesL n, i < 104 := by
 intro i hi
 rw [placesL] at hi
 rcases List.mem_append.1 hi with hi | hi
 ·rw [List.mem_replicate] at hi; omega
 ·rcases List.mem_append.1 hi with hi | hi
  ·split at hi
   ·rw [List.mem_singleton] at hi; omega
   ·cases hi
  ·rw [List.mem_singleton] at hi; omega
theorem kbits_cons (W : List (List Nat)) (i : Nat) (K : List Nat) : kbits W (i :: K) = W.getD i [] ++ kbits W K := by simp [kbits]
def readFx (W : List (List Nat)) (t : List Nat) (most : Int) : Nat → Nat → Nat → Nat × (Nat ⊕ Nat)
 | 0, p, _ => (p, .inr 99)
 | f + 1, p, n =>
  match rdW W [] (t.drop p) with
  | (k, .inr e) => (p + k, .inr e)
  | (k, .inl i) => if most < ((n + faxL i : Nat) : Int) then (p + k, .inr 5) else if i < 64 then (p + k, .inl (n + faxL i)) else readFx W t most f (p + k) (n + faxL i)
def readL (black : Bool) (t : List Nat) (most : Int) (p : Nat) : Nat × (Nat ⊕ Nat) := readFx (faxW black) t most (t.length + 1 - p) p 0
theorem codes_book {w0 w : World} {C : Nat} {F : SProp} (h : St w0 w (codes C * F)) (black : Bool) : ∃ (B : Nat) (R : SProp),
  St w0 w (bkI B (faxW black) faxI * (R * F)) ∧ (∀ w' G, St w0 w' (bkI B (faxW black) faxI * (R * G)) → St w0 w' (codes C * G)) ∧
  (∀ w' G, St w0 w' (bkI B (faxW black) faxI * (R * G)) → Calls Tryz.prog 180 #[.pointer (some ⟨C, 0, none⟩), .bool black] w' fun e w'' => e = .returned (.pointer (some ⟨B, 0, none⟩)) ∧ w' = w'') := by
 obtain ⟨B0, B1, Bm, h1⟩ := codes_open h
 cases black
 ·refine ⟨B0, blk C (.cells #[.pointer (some ⟨B0, 0, none⟩), .pointer (some ⟨B1, 0, none⟩), .pointer (some ⟨Bm, 0, none⟩)] 186) * (bkI B1 (faxW true) faxI * bkM Bm modW modI), h1.perm (by ac_rfl), fun w' G h' => codes_shut (h'.perm (by ac_rfl)), fun w' G h' => ?_⟩
  have h2 := h'.perm (show _ = blk C (.cells #[.pointer (some ⟨B0, 0, none⟩), .pointer (some ⟨B1, 0, none⟩), .pointer (some ⟨Bm, 0, none⟩)] 186) * (bkI B0 (faxW false) faxI * (bkI B1 (faxW true) faxI * (bkM Bm modW modI * G))) by ac_rfl)
  have c0 := h2.cell 0 rfl
  clear h h1 h' h2
  go_enter Tryz.func180, Tryz.ntmps180
  go_wp2_with fail
  go_ret
  exact ⟨rfl, rfl⟩
 ·refine ⟨B1, blk C (.cells #[.pointer (some ⟨B0, 0, none⟩), .pointer (some ⟨B1, 0, none⟩), .pointer (some ⟨Bm, 0, none⟩)] 186) * (bkI B0 (faxW false) faxI * bkM Bm modW modI), h1.perm (by ac_rfl), fun w' G h' => codes_shut (h'.perm (by ac_rfl)), fun w' G h' => ?_⟩
  have h2 := h'.perm (show _ = blk C (.cells #[.pointer (some ⟨B0, 0, none⟩), .pointer (some ⟨B1, 0, none⟩), .pointer (some ⟨Bm, 0, none⟩)] 186) * (bkI B0 (faxW false) faxI * (bkI B1 (faxW true) faxI * (bkM Bm modW modI * G))) by ac_rfl)
  have c1 := h2.cell 1 rfl
  clear h h1 h' h2
  go_enter Tryz.func180, Tryz.ntmps180
  go_wp2_with fail
  go_ret
  exact ⟨rfl, rfl⟩
set_option maxHeartbeats 40000000 in
theorem cwrite_any {w0 w : World} {C Wb : Nat} {F : SProp} {l : List Nat} {low : Bool} (h : St w0 w (codes C * (wrt Wb l low * F))) (n : Nat) (hn : n ≤ 32768) (black : Bool) (hm : l.length ≤ 1000000000) {j : Int} (hj : j = n) :
  Calls Tryz.prog 142 #[.pointer (some ⟨C, 0, none⟩), .pointer (some ⟨Wb, 0, none⟩), .int .i64 j, .bool black] w fun e w' => e = .returned (.int .i64 0) ∧ St w0 w' (codes C * (wrt Wb (l ++ tellB black n) low * F)) := by
 subst hj
 obtain ⟨B, R, h1, HS, HBK⟩ := codes_book h black
 have HSH := Lib.hid HS
 have HC1 := Lib.hid (HBK _ _ h1); clear HS HBK h
 have H1 := Lib.hid h1; clear h1
 have HTL := Lib.hid (show l ++ tellB black n = l ++ kbits (faxW black) (placesL n) from rfl)
 generalize l ++ tellB black n = RES at *
 go_enter Tryz.func142, Tryz.ntmps142
 go_wp2_with fail
 refine HC1.out.mono ?_
 rintro e w1 ⟨rfl, rfl⟩
 clear HC1
 go_wp2_with fail
 go_loopw [2] (fun vn wr => ∃ (m : Nat) (l' : List Nat), vn = .int .i64 m ∧ m ≤ 32768 ∧ l'.length + 13 * m ≤ 1000500000 ∧ l' ++ kbits (faxW black) (placesL m) = RES ∧ St w0 wr (bkI B (faxW black) faxI * (R * (wrt Wb l' low * F)))) (fun vn _ => (intOf vn).toNat)
 case atStart => exact ⟨n, l, rfl, hn, by omega, HTL.out.symm, H1.out⟩
 case round =>
  clear H1 HTL
  obtain ⟨m, l', rfl, hm9, hl', hres, hst⟩ := hrel
  have hst2 := hst.perm (show _ = bkI B (faxW black) faxI * (wrt Wb l' low * (R * F)) by ac_rfl)
  by_cases h64 : 64 ≤ m
  ·have h64' : (64 : Int) ≤ m := by omega
   by_cases hg : 2560 ≤ m
   ·have hg' : (2560 : Int) ≤ m := by omega
    rw [placesL_great hg, kbits_cons] at hres
    obtain ⟨v, hv, hvn⟩ := ne_fax black (i := 103) (by omega)
    have hvl := le_fax black v (List.mem_of_getElem? hv)
    have hvb := bit_fax black v (List.mem_of_getElem? hv)
    have hvg : (faxW black).getD 103 [] = v := by rw [List.getD_eq_getElem?_getD, hv]; rfl
    rw [hvg, ← List.append_assoc] at hres
    have HC := Lib.hid (bkI_write hst2 (j := (103 : Int)) 103 rfl hv hvn hvb (by omega) (by omega))
    have HR := Lib.hid hres; clear hres hst hst2 hv
    have hmin : min (m : Int) 2560 = 2560 := by omega
    have hs : (m : Int) - 2560 = ((m - 2560 : Nat) : Int) := by omega
    go_wp2_with fail
    refine HC.out.mono ?_
    rintro e w2 ⟨rfl, h3⟩
    have H3 := Lib.hid (h3.perm (show _ = bkI B (faxW black) faxI * (R * (wrt Wb (l' ++ v) low * F)) by ac_rfl)); clear h3
    go_wp2_with fail
    exact ⟨⟨m - 2560, l' ++ v, by first | rfl | go_num, by omega, by rw [List.length_append]; omega, HR.out, H3.out⟩, by simp [intOf]; omega⟩
   ·have hg' : ¬ (2560 : Int) ≤ m := by omega
    rw [placesL_more (by omega) h64, kbits_cons] at hres
    obtain ⟨v, hv, hvn⟩ := ne_fax black (i := 63 + m / 64) (by omega)
    have hvl := le_fax black v (List.mem_of_getElem? hv)
    have hvb := bit_fax black v (List.mem_of_getElem? hv)
    have hvg : (faxW black).getD (63 + m / 64) [] = v := by rw [List.getD_eq_getElem?_getD, hv]; rfl
    rw [hvg, ← List.append_assoc] at hres
    obtain ⟨i, hi⟩ : ∃ i, i = 63 + m / 64 := ⟨_, rfl⟩
    rw [← hi] at hv
    have HC := Lib.hid (bkI_write hst2 (j := (i : Int)) i rfl hv hvn hvb (by omega) (by omega))
    have HR := Lib.hid hres; clear hres hst hst2 hv
    have hmin : min (m : Int) 2560 = (m : Int) := by omega
    obtain ⟨kq, hkq⟩ : ∃ kq, kq = m / 64 := ⟨_, rfl⟩
    obtain ⟨r0, hr0⟩ : ∃ r0, r0 = 64 * kq := ⟨_, rfl⟩
    obtain ⟨m2, hm2⟩ : ∃ m2, m2 = m % 64 := ⟨_, rfl⟩
    rw [← hm2] at HR
    have hq : (m : Int) / 64 = (kq : Int) := by omega
    have hii : (63 : Int) + (kq : Int) = (i : Int) := by omega
    have hs0 : (64 : Int) * (kq : Int) = (r0 : Int) := by omega
    have hs : (m : Int) - (r0 : Int) = (m2 : Int) := by omega
    have hb1 : kq ≤ 39 := by omega
    have hb2 : r0 ≤ 2560 := by omega
    have hb3 : m2 < 64 := by omega
    have hb4 : m2 ≤ m - 64 := by omega
    have hb5 : i < 104 := by omega
    clear hi hkq hr0 hm2 hvg
    go_wp2_with fail
    refine HC.out.mono ?_
    rintro e w2 ⟨rfl, h3⟩
    have H3 := Lib.hid (h3.perm (show _ = bkI B (faxW black) faxI * (R * (wrt Wb (l' ++ v) low * F)) by ac_rfl)); clear h3
    go_wp2_with fail
    exact ⟨⟨m2, l' ++ v, by first | rfl | go_num, by omega, by rw [List.length_append]; omega, HR.out, H3.out⟩, by simp [intOf]; omega⟩
  ·have h64' : ¬ (64 : Int) ≤ m := by omega
   rw [placesL_less (by omega)] at hres
   obtain ⟨v, hv, hvn⟩ := ne_fax black (i := m) (by omega)
   have hvl := le_fax black v (List.mem_of_getElem? hv)
   have hvb := bit_fax black v (List.mem_of_getElem? hv)
   have hvg : kbits (faxW black) [m] = v := by simp [kbits, hv]
   rw [hvg] at hres
   have HC := Lib.hid (bkI_write hst2 (j := (m : Int)) m rfl hv hvn hvb (by omega) (by omega))
   have HR := Lib.hid hres; clear hres hst hst2 hv hvg
   go_wp2_with fail
   refine HC.out.mono ?_
   rintro e w2 ⟨rfl, h3⟩
   have H3 := Lib.hid (h3.perm (show _ = bkI B (faxW black) faxI * (R * (wrt Wb (l' ++ v) low * F)) by ac_rfl)); clear h3
   go_wp2_with fail
   go_ret
   exact ⟨rfl, by rw [← HR.out]; exact HSH.out _ _ H3.out⟩
theorem ne_mod {i : Nat} (h : i < 10) : ∃ w, modW[i]? = some w ∧ w ≠ [] := by
 have hl : i < modW.length := by rw [len_mod]; exact h
 refine ⟨_, List.getElem?_eq_getElem hl, fun h0 => ?_⟩
 have := (le_mod _ (List.getElem_mem hl)).1
 rw [h0] at this
 exact absurd this (by decide)
set_option maxHeartbeats 40000000 in
theorem cwriteMode_any {w0 w : World} {C Wb : Nat} {F : SProp} {l : List Nat} {low : Bool} (h : St w0 w (codes C * (wrt Wb l low * F))) (i : Nat) (hi : i ≤ 8) (hm : l.length ≤ 1000000000) {j : Int} (hj : j = (i : Int) - 3) :
  Calls Tryz.prog 145 #[.pointer (some ⟨C, 0, none⟩), .pointer (some ⟨Wb, 0, none⟩), .int .i64 j] w fun e w' => e = .returned (.int .i64 0) ∧ St w0 w' (codes C * (wrt Wb (l ++ modW.getD i []) low * F)) := by
 obtain ⟨B0, B1, Bm, h1⟩ := codes_open h
 have c2 := h1.cell 2 rfl
 obtain ⟨v, hv, hvn⟩ := ne_mod (i := i) (by omega)
 have hvl := le_mod v (List.mem_of_getElem? hv)
 have hvb := bit_mod v (List.mem_of_getElem? hv)
 have hvg : modW.getD i [] = v := by rw [List.getD_eq_getElem?_getD, hv]; rfl
 rw [hvg]
 have HC := Lib.hid (bkM_write (h1.perm (show _ = bkM Bm modW modI * (wrt Wb l low * (blk C (.cells #[.pointer (some ⟨B0, 0, none⟩), .pointer (some ⟨B1, 0, none⟩), .pointer (some ⟨Bm, 0, none⟩)] 186) * (bkI B0 (faxW false) faxI * (bkI B1 (faxW true) faxI * F)))) by ac_rfl)) (j := (i : Int)) i rfl hv hvn hvb (by omega) (by omega))
 clear h h1 hv hvg
 have h1 : ¬ j < -3 := by omega
 have h2 : ¬ 5 < j := by omega
 have h3 : j - -3 = (i : Int) := by omega
 have h4 : j + 3 = (i : Int) := by omega
 have hdj : decide (j < -3) = false := by simpa using h1
 clear hj
 go_enter Tryz.func145, Tryz.ntmps145
 go_wp2_with fail
 refine HC.out.mono ?_
 rintro e w2 ⟨rfl, h5⟩
 have H5 := Lib.hid h5; clear h5
 go_wp2_with fail
 go_ret
 exact ⟨rfl, codes_shut (H5.out.perm (by ac_rfl))⟩
end Go.Proofs.YtboflbdniogcdaaGreatDoor
namespace Go.Proofs.YtboflbdniogcdaaGreatDoor
open Go.RowKit Go.Mz
set_option linter.unusedVariables false
set_option linter.unusedSimpArgs false
set_option maxRecDepth 100000
def cl (b : Bool) : Nat := cond b 1 0
def chF (c i : Nat) : List Nat → List Nat
 | [] => []
 | x :: r => if x = c then chF c (i + 1) r else i :: chF x (i + 1) r
def chg (p : List Nat) : List Nat := chF 0 0 p
def lastC (c : Nat) (p : List Nat) : Nat := p.getLastD c
def runP (n : Nat) (b : Bool) : List Nat := List.replicate n (cl b)
@[simp] theorem length_runP (n : Nat) (b : Bool) : (runP n b).length = n := by simp [runP]
theorem chF_append (q : List Nat) : ∀ (p : List Nat) (c i : Nat), chF c i (p ++ q) = chF c i p ++ chF (lastC c p) (i + p.length) q := by
 intro p
 induction p with
 | nil => intro c i; simp [chF, lastC]
 | cons x r ih =>
  intro c i
  have hl : lastC c (x :: r) = lastC x r := List.getLastD_cons ..
  have h1 : i + (x :: r).length = i + 1 + r.length := by simp; omega
  by_cases hx : x = c
  ·subst hx
   rw [List.cons_append, chF, if_pos rfl, chF, if_pos rfl, ih, hl, h1]
  ·rw [List.cons_append, chF, if_neg hx, chF, if_neg hx, ih, hl, h1, List.cons_append]
theorem chF_bd : ∀ (p : List Nat) (c i : Nat), ∀ x ∈ chF c i p, i ≤ x ∧ x < i + p.length := by
 intro p
 induction p with
 | nil => intro c i x hx; cases hx
 | cons y r ih =>
  intro c i x hx
  rw [chF] at hx
  split at hx
  ·have := ih _ _ x hx; simp; omega
  ·rcases List.mem_cons.1 hx with rfl | hx
   ·simp
   ·have := ih _ _ x hx; simp; omega
theorem chF_inc : ∀ (p : List Nat) (c i : Nat), (chF c i p).Pairwise (· < ·) := by
 intro p
 induction p with
 | nil => intro c i; exact List.Pairwise.nil
 | cons y r ih =>
  intro c i
  rw [chF]
  split
  ·exact ih _ _
  ·refine List.Pairwise.cons (fun x hx => ?_) (ih _ _)
   have := chF_bd _ _ _ x hx
   omega
theorem chF_len : ∀ (p : List Nat) (c i : Nat), (chF c i p).length ≤ p.length := by
 intro p
 induction p with
 | nil => intro c i; exact Nat.le_refl _
 | cons y r ih =>
  intro c i
  rw [chF]
  split
  ·have := ih c (i + 1); simp; omega
  ·have := ih y (i + 1); simp; omega
theorem chg_lt (p : List Nat) : ∀ x ∈ chg p, x < p.length := fun x hx => by
 have := chF_bd p 0 0 x hx; omega
theorem lastC_bit {p : List Nat} (h : Bit p) : lastC 0 p ≤ 1 := by
 rw [lastC, List.getLastD_eq_getLast?]
 cases hq : p.getLast? with
 | none => simp
 | some x => exact h x (List.mem_of_getLast? hq)
def nextF (par : Bool) (at' : Int) (toB : Bool) (width : Nat) : List Nat → Nat × Nat
 | [] => (width, width)
 | x :: r => if at' < (x : Int) ∧ par = toB then (x, r.headD width) else nextF (!par) at' toB width r
theorem nextF_bd {at' : Int} {toB : Bool} {width : Nat} : ∀ (l : List Nat) (par : Bool), l.Pairwise (· < ·) → (∀ x ∈ l, x < width) → at' < width →
  at' < ((nextF par at' toB width l).1 : Int) ∧ (nextF par at' toB width l).1 ≤ (nextF par at' toB width l).2 ∧ (nextF par at' toB width l).2 ≤ width ∧ ((nextF par at' toB width l).1 < width → (nextF par at' toB width l).1 < (nextF par at' toB width l).2) := by
 intro l
 induction l with
 | nil => intro par _ _ h; exact ⟨h, Nat.le_refl _, Nat.le_refl _, fun h => absurd h (Nat.lt_irrefl _)⟩
 | cons x r ih =>
  intro par hp hb h
  rw [nextF]
  split
  ·rename_i hx
   have hxw := hb x (by simp)
   cases r with
   | nil => simp; omega
   | cons y r =>
    have h1 := (List.pairwise_cons.1 hp).1 y (by simp)
    have h2 := hb y (by simp)
    simp; omega
  ·exact ih _ (List.pairwise_cons.1 hp).2 (fun y hy => hb y (by simp [hy])) h
def lensF (was : Nat) (l : List Nat) (width : Nat) : List Nat := match l with
 | [] => [width - was]
 | x :: r => (x - was) :: lensF x r width
def rowB (b : Bool) : List Nat → List Nat
 | [] => []
 | n :: r => tellB b n ++ rowB (!b) r
def agB (row top : List Nat) (width : Nat) : Nat → Int → Bool → List Nat
 | 0, _, _ => []
 | f + 1, at', b =>
  if at' < width then
   let a := nextF true at' (!b) width row
   let c := nextF true at' (!b) width top
   if c.2 < a.1 then modW.getD 8 [] ++ agB row top width f c.2 b
   else if a.1 ≤ c.1 + 3 ∧ c.1 ≤ a.1 + 3 then modW.getD (a.1 + 3 - c.1) [] ++ agB row top width f a.1 (!b)
   else modW.getD 7 [] ++ (tellB b (a.1 - (max at' 0).toNat) ++ (tellB (!b) (a.2 - a.1) ++ agB row top width f a.2 b))
  else []
def two (t : List Nat) (width : Nat) (k : Nat) (px : List Nat) (b : Bool) : Nat × (List Nat ⊕ Nat) :=
 match readL b t ((width - px.length : Nat) : Int) k with
 | (k1, .inr e) => (k1, .inr e)
 | (k1, .inl n1) =>
  match readL (!b) t ((width - (px.length + n1) : Nat) : Int) k1 with
  | (k2, .inr e) => (k2, .inr e)
  | (k2, .inl n2) => (k2, .inl (px ++ runP n1 b ++ runP n2 (!b)))
end Go.Proofs.YtboflbdniogcdaaGreatDoor
namespace Go.Proofs.YtboflbdniogcdaaGreatDoor
open Go.RowKit Go.Mz
set_option linter.unusedVariables false
set_option linter.unusedSimpArgs false
set_option maxRecDepth 100000
def rightI (was width : Int) : List Int → Bool
 | [] => true
 | x :: r => if x ≤ was ∨ width ≤ x then false else rightI x width r
theorem right_nat : ∀ (l : List Nat) (was : Int) (width : Nat), (∀ x ∈ l, was < (x : Int) ∧ x < width) → l.Pairwise (· < ·) → rightI was width (l.map Int.ofNat) = true := by
 intro l
 induction l with
 | nil => intro _ _ _ _; rfl
 | cons x r ih =>
  intro was width h hp
  have hx := h x (by simp)
  obtain ⟨h1, h2⟩ := List.pairwise_cons.1 hp
  rw [List.map_cons, rightI, if_neg (by simp; omega)]
  exact ih _ _ (fun y hy => ⟨by simpa using h1 y hy, (h y (by simp [hy])).2⟩) h2
theorem map_nv (l : List Nat) : (l.map Int.ofNat).map iv = l.map nv := by rw [List.map_map]; rfl
theorem right12_any {w : World} {l : List Int} {v : Value} (width : Int) (hr : Reads w 1 v l.length (l.map iv)) :
  Calls Tryz.prog 126 #[v, .int .i64 width] w fun e w' => e = .returned (.bool (rightI (-1) width l)) ∧ w' = w := by
 obtain ⟨al, c, rfl⟩ := hr.sub
 have hm := hr.len_le
 unfold maxLen at hm
 have HR := Lib.hid hr; clear hr
 obtain ⟨res, hres⟩ : ∃ res, rightI (-1) width l = res := ⟨_, rfl⟩
 rw [hres]
 have HRES := Lib.hid hres; clear hres
 go_enter Tryz.func126, Tryz.ntmps126
 go_wp2_with fail
 go_loop [5, 10] (fun vs vi => ∃ (k : Nat) (was : Int), k ≤ l.length ∧ vi = .int .i64 k ∧ vs = .int .i64 was ∧ rightI was width (l.drop k) = res) (fun _ vi => l.length - (intOf vi).toNat)
 case atStart => exact ⟨0, -1, by omega, rfl, rfl, HRES.out⟩
 case round =>
  obtain ⟨k, was, hk, rfl, rfl, hst⟩ := hrel
  by_cases hkn : k < l.length
  ·obtain ⟨g, o, rfl, e1⟩ := HR.out.at_ hkn
   have hx := List.getElem?_eq_getElem hkn
   rw [List.getElem?_map, hx] at e1
   simp only [Option.map_some, iv] at e1
   rw [List.drop_eq_getElem_cons hkn, rightI] at hst
   clear hx
   generalize l[k] = x at *
   have hkl : (k : Int) < l.length := by omega
   by_cases h1 : x ≤ was
   ·rw [if_pos (.inl h1)] at hst
    subst hst
    go_wp2_with fail
    go_ret
    exact ⟨rfl, rfl⟩
   ·by_cases h2 : width ≤ x
    ·rw [if_pos (.inr h2)] at hst
     subst hst
     go_wp2_with fail
     go_ret
     exact ⟨rfl, rfl⟩
    ·rw [if_neg (by omega)] at hst
     have HST := Lib.hid hst; clear hst
     go_wp2_with fail
     exact ⟨⟨k + 1, x, by omega, by go_num, rfl, HST.out⟩, by simp [intOf]; omega⟩
  ·obtain rfl : k = l.length := by omega
   rw [List.drop_length, rightI] at hst
   subst hst
   go_wp2_with fail
   go_ret
   exact ⟨rfl, rfl⟩
theorem nextI_go {l : List Nat} {at' : Int} {toB : Bool} {width k : Nat} (hk : k < l.length) (par : Bool) : nextF par at' toB width (l.drop k) = if at' < (l[k] : Int) ∧ par = toB then (l[k], (l.drop (k + 1)).headD width) else nextF (!par) at' toB width (l.drop (k + 1)) := by
 rw [List.drop_eq_getElem_cons hk, nextF]
set_option maxHeartbeats 4000000 in
theorem next_any {w : World} {l : List Nat} {v : Value} (at' : Int) (toB : Bool) (width : Nat) (hr : Reads w 1 v l.length (l.map nv)) (hl : l.length ≤ 1000000) :
  Calls Tryz.prog 144 #[v, .int .i64 at', .bool toB, .int .i64 (width : Int)] w fun e w' => e = .returned (.tuple #[.int .i64 ((nextF true at' toB width l).1 : Nat), .int .i64 ((nextF true at' toB width l).2 : Nat)]) ∧ ∃ n, w' = w.drewN n := by
 obtain ⟨al, c, rfl⟩ := hr.sub
 have HR := Lib.hid hr; clear hr
 obtain ⟨res, hres⟩ : ∃ res, nextF true at' toB width l = res := ⟨_, rfl⟩
 rw [hres]
 have HRES := Lib.hid hres; clear hres
 go_enter Tryz.func144, Tryz.ntmps144
 go_wp2_with fail
 go_loop [14] (fun vi => ∃ k : Nat, k ≤ l.length ∧ vi = .int .i64 k ∧ nextF (decide (k % 2 = 0)) at' toB width (l.drop k) = res) (fun vi => l.length - (intOf vi).toNat)
 case atStart => exact ⟨0, by omega, rfl, HRES.out⟩
 case round =>
  obtain ⟨k, hk, rfl, hst⟩ := hrel
  by_cases hkn : k < l.length
  ·obtain ⟨g, o, rfl, e1⟩ := HR.out.at_ hkn
   have hx := List.getElem?_eq_getElem hkn
   rw [List.getElem?_map, hx] at e1
   simp only [Option.map_some, nv] at e1
   rw [nextI_go hkn] at hst
   have hkl : (k : Int) < l.length := by omega
   have hpar : (!decide (k % 2 = 0)) = decide ((k + 1) % 2 = 0) := by
    rcases Nat.mod_two_eq_zero_or_one k with h | h
    ·rw [h, show (k + 1) % 2 = 1 by omega]; rfl
    ·rw [h, show (k + 1) % 2 = 0 by omega]; rfl
   rw [hpar] at hst
   have HN : ∀ (hk2 : k + 1 < l.length), ∃ y : Nat, (l.drop (k + 1)).headD width = y ∧ w.cell? ⟨g, o + (k + 1), none⟩ = some (.int .i64 (y : Int)) := fun hk2 => by
    obtain ⟨g', o', he, e2⟩ := HR.out.at_ hk2
    cases he
    rw [List.getElem?_map, List.getElem?_eq_getElem hk2] at e2
    rw [List.drop_eq_getElem_cons hk2]
    exact ⟨_, rfl, e2⟩
   have HN := Lib.hid HN
   have hz : ¬ k + 1 < l.length → (l.drop (k + 1)).headD width = width := fun h => by rw [List.drop_eq_nil_of_le (by omega)]; rfl
   have HZ := Lib.hid hz
   have hm2 : (k : Int) % 2 = ((k % 2 : Nat) : Int) := by omega
   clear hx hz hpar
   generalize l[k] = x at *
   by_cases h1 : at' < (x : Int)
   ·rcases Nat.mod_two_eq_zero_or_one k with h2 | h2
    ·rw [h2] at hst hm2
     cases toB
     ·rw [if_neg (by simp)] at hst
      have HST := Lib.hid hst; clear hst h2
      go_wp2_with fail
      exact ⟨⟨k + 1, by omega, by go_num, HST.out⟩, by simp [intOf]; omega⟩
     ·rw [if_pos ⟨h1, by simp⟩] at hst
      clear h2
      by_cases hk2 : k + 1 < l.length
      ·obtain ⟨y, hy, e2⟩ := HN.out hk2
       rw [hy] at hst
       have HST := Lib.hid hst; clear hst
       have hk3 : ((k : Int) + 1) < l.length := by omega
       clear hy
       go_upto_region 6 with (fail)
       go_quiet (fail)
       go_wp2_with fail
       go_ret2
       exact ⟨by rw [← HST.out]; rfl, _, rfl⟩
      ·rw [HZ.out hk2] at hst
       have HST := Lib.hid hst; clear hst
       have hk3 : ¬ ((k : Int) + 1) < l.length := by omega
       go_wp2_with fail
       go_ret2
       exact ⟨by rw [← HST.out]; rfl, 0, rfl⟩
    ·rw [h2] at hst hm2
     cases toB
     ·rw [if_pos ⟨h1, by simp⟩] at hst
      clear h2
      by_cases hk2 : k + 1 < l.length
      ·obtain ⟨y, hy, e2⟩ := HN.out hk2
       rw [hy] at hst
       have HST := Lib.hid hst; clear hst
       have hk3 : ((k : Int) + 1) < l.length := by omega
       clear hy
       go_upto_region 6 with (fail)
       go_quiet (fail)
       go_wp2_with fail
       go_ret2
       exact ⟨by rw [← HST.out]; rfl, _, rfl⟩
      ·rw [HZ.out hk2] at hst
       have HST := Lib.hid hst; clear hst
       have hk3 : ¬ ((k : Int) + 1) < l.length := by omega
       go_wp2_with fail
       go_ret2
       exact ⟨by rw [← HST.out]; rfl, 0, rfl⟩
     ·rw [if_neg (by simp)] at hst
      have HST := Lib.hid hst; clear hst h2
      go_wp2_with fail
      exact ⟨⟨k + 1, by omega, by go_num, HST.out⟩, by simp [intOf]; omega⟩
   ·rw [if_neg (by simp [h1])] at hst
    have HST := Lib.hid hst; clear hst
    go_wp2_with fail
    exact ⟨⟨k + 1, by omega, by go_num, HST.out⟩, by simp [intOf]; omega⟩
  ·obtain rfl : k = l.length := by omega
   rw [List.drop_length, nextF] at hst
   subst hst
   go_wp2_with fail
   go_ret2
   exact ⟨rfl, 0, rfl⟩
theorem nv_oneCell (l : List Nat) : ∀ u ∈ l.map nv, u.oneCell' = true := by
 intro u hu
 obtain ⟨x, _, rfl⟩ := List.mem_map.1 hu
 rfl
theorem reads_nat1 (w : World) (x : Nat) : Reads (w.alloc (.cells #[.int .i64 (x : Int)] 3)) 1 (.slice (some ⟨w.heap.size, 0, none⟩) 1 1) 1 ([x].map nv) := reads_int1F w x
def difF (was : Nat) : List Nat → List Nat
 | [] => []
 | x :: r => (x - was) :: difF x r
theorem difF_eq (l : List Nat) (width : Nat) : ∀ was, lensF was l width = difF was (l ++ [width]) := by
 induction l with
 | nil => intro was; rfl
 | cons x r ih => intro was; rw [lensF, ih, List.cons_append, difF]
theorem lensF_len (l : List Nat) (width : Nat) : ∀ was, (lensF was l width).length = l.length + 1 := by
 induction l with
 | nil => intro was; rfl
 | cons x r ih => intro was; simp [lensF, ih]
set_option maxHeartbeats 4000000 in
theorem lengths12_any {w0 w : World} {F : SProp} (h : St w0 w F) {l : List Nat} {v : Value} {width : Nat} (hr : Stb w0 F (fun w => Reads w 1 v l.length (l.map nv))) (hp : l.Pairwise (· < ·)) (hb : ∀ x ∈ l, x < width) (hw : width ≤ 32768) (hl : l.length ≤ 1000000) :
  Calls Tryz.prog 141 #[v, .int .i64 (width : Int)] w fun e w' => ∃ v', e = .returned (.tuple #[v', .int .i64 0]) ∧ St w0 w' (own 3 1 v' (lensF 0 l width).length ((lensF 0 l width).map nv) * F) := by
 obtain ⟨al, c, rfl⟩ := (hr w h).sub
 have T := elemI
 have hrg : rightI (-1) (width : Int) (l.map Int.ofNat) = true := right_nat l _ _ (fun x hx => ⟨by omega, hb x hx⟩) hp
 have HRG := Lib.hid (by
  have C := right12_any (l := l.map Int.ofNat) (v := .slice al l.length c) (width : Int) (w := w) (by rw [map_nv, List.length_map]; exact hr w h)
  rw [hrg] at C; exact C)
 have hl1 := h.lit #[] 3 0 rfl (by decide)
 have hx1 := hr _ hl1.right
 have HL1 := Lib.hid hl1; have HX1 := Lib.hid hx1
 obtain ⟨L, hL⟩ : ∃ L, L = l ++ [width] := ⟨_, rfl⟩
 obtain ⟨res, hres⟩ : ∃ res, res = lensF 0 l width := ⟨_, rfl⟩
 have hdL : [] ++ difF 0 (L.drop 0) = res := by rw [hres, difF_eq, hL]; rfl
 have hLl : L.length = l.length + 1 := by rw [hL]; simp
 have hmo : ∀ k (hk : k < L.length), L[k] ≤ width ∧ (∀ j, j < k → L.getD j 0 ≤ L[k]) := by
  subst hL
  intro k hk
  have hpp : (l ++ [width]).Pairwise (· < ·) := List.pairwise_append.2 ⟨hp, List.pairwise_singleton _ _, fun a ha b hb2 => by rw [List.mem_singleton.1 hb2]; exact hb a ha⟩
  refine ⟨?_, fun j hj => ?_⟩
  ·have hm := List.getElem_mem hk
   rcases List.mem_append.1 hm with h | h
   ·exact Nat.le_of_lt (hb _ h)
   ·rw [List.mem_singleton.1 h]; exact Nat.le_refl _
  ·have := List.pairwise_iff_getElem.1 hpp j k (by omega) hk hj
   rw [List.getD_eq_getElem?_getD, List.getElem?_eq_getElem (by omega)]
   exact Nat.le_of_lt this
 have HMO := Lib.hid hmo; have HDL := Lib.hid hdL
 have h2 : ∀ v' w', St w0 w' (own 3 1 v' (l.length + 1) (l.map nv ++ [width].map nv) * F) → St w0 w' (own 3 1 v' L.length (L.map nv) * F) := fun v' w' h => by
  rw [hL, List.length_append, List.map_append]; exact h
 have H2 := Lib.hid h2
 have HLL := Lib.hid hLl
 have hLm : L.length ≤ 1000001 := by omega
 rw [← hres]
 clear hrg hl1 hx1 hL hres hdL hmo hp hb h2 hLl
 have H := Lib.hid h; clear h
 have hw1 : ¬ (width : Int) < 0 := by omega
 have hw2 : ¬ (32768 : Int) < width := by omega
 go_enter Tryz.func141, Tryz.ntmps141
 go_wp2_with fail
 refine HRG.out.mono ?_
 rintro e w2 ⟨rfl, rfl⟩
 go_wp2_with (at_builtin; apply stop)
 refine on (wpList_append_sep T rfl _ _ rfl rfl HL1.out rfl HX1.out (nv_oneCell l) (by unfold maxLen; omega) (by omega) ?_)
 intro v3 w3 h3 _
 rw [List.nil_append, Nat.zero_add] at h3
 obtain ⟨a3, c3, rfl⟩ := h3.reads.sub
 have H3 := Lib.hid h3; clear h3
 go_wp2_with (at_builtin; apply stop)
 refine on (wpList_append_sep T rfl _ _ rfl rfl (H3.out.drop_alloc (.cells #[.int .i64 (width : Int)] 3)) rfl (reads_nat1 w3 width) (nv_oneCell [width]) (by unfold maxLen; omega) (by omega) ?_)
 intro v4 w4 h4 _
 have h4 := H2.out _ _ h4
 obtain ⟨a4, c4, rfl⟩ := h4.reads.sub
 have H4 := Lib.hid (St.own_nil 3 1 h4); clear h4 H3 HL1 HX1 HRG H
 go_wp2_with fail
 go_loopw [6, 7, 29] (fun vo vs vi wr => ∃ (k was : Nat) (acc : List Nat) (ao : Option Addr) (co : Nat), k ≤ L.length ∧ vi = .int .i64 k ∧ vo = .slice ao acc.length co ∧ vs = .int .i64 was ∧ was = (if k = 0 then 0 else L.getD (k - 1) 0) ∧ was ≤ width ∧ acc.length = k ∧ acc ++ difF was (L.drop k) = res ∧ St w0 wr (own 3 1 (.slice ao acc.length co) acc.length (acc.map nv) * (own 3 1 (.slice a4 L.length c4) L.length (L.map nv) * F))) (fun _ _ vi _ => L.length - (intOf vi).toNat)
 case atStart => exact ⟨0, 0, [], none, 0, by omega, rfl, rfl, rfl, rfl, by omega, rfl, HDL.out, H4.out⟩
 case round =>
  clear H4
  obtain ⟨k, was, acc, ao, co, hk, rfl, rfl, rfl, hwas, hww, hal, hall, hst⟩ := hrel
  by_cases hkn : k < L.length
  ·obtain ⟨g, o, rfl, e1⟩ := hst.right.reads.at_ hkn
   have hx := List.getElem?_eq_getElem hkn
   rw [List.getElem?_map, hx] at e1
   simp only [Option.map_some, nv] at e1
   rw [List.drop_eq_getElem_cons hkn, difF, List.append_cons] at hall
   have hxw := (HMO.out k hkn).1
   have hwx : was ≤ L[k] := by
    rw [hwas]
    split
    ·omega
    ·exact (HMO.out k hkn).2 _ (by omega)
   have hnx : L[k] = (if k + 1 = 0 then 0 else L.getD (k + 1 - 1) 0) := by
    rw [if_neg (by omega), Nat.add_sub_cancel, List.getD_eq_getElem?_getD, hx]; rfl
   have hkl : (k : Int) < L.length := by omega
   clear hx hwas
   generalize L[k] = x at *
   have hsub : (x : Int) - was = ((x - was : Nat) : Int) := by omega
   have hsw : x - was ≤ 32768 := by omega
   generalize x - was = d at *
   have HALL := Lib.hid hall; have HNX := Lib.hid hnx; have HST := Lib.hid hst; have HAL := Lib.hid hal
   have haln : acc.length ≤ 1000001 := by omega
   clear hall hnx hst hal
   go_wp2_with (at_builtin; apply stop)
   refine on (wpList_append_sep T rfl _ _ rfl rfl (HST.out.drop_alloc (.cells #[.int .i64 (d : Int)] 3)) rfl (reads_nat1 wr d) (nv_oneCell [d]) (by unfold maxLen; omega) (by omega) ?_)
   intro v5 w5 h5 _
   have h5 : St w0 w5 (own 3 1 v5 (acc ++ [d]).length ((acc ++ [d]).map nv) * (own 3 1 (.slice (some ⟨g, o, none⟩) L.length c4) L.length (L.map nv) * F)) := by
    rw [List.length_append, List.map_append]; exact h5
   obtain ⟨aN, cN, rfl⟩ := h5.reads.sub
   have hle : (acc ++ [d]).length = acc.length + 1 := by simp
   generalize acc ++ [d] = acc2 at *
   have H5 := Lib.hid h5; clear h5
   rw [hle]
   have HLE := Lib.hid hle; clear hle
   go_wp2_with fail
   refine ⟨⟨k + 1, x, acc2, aN, cN, by omega, by go_num, by rw [HLE.out], rfl, HNX.out, hxw, by rw [HLE.out, HAL.out], HALL.out, H5.out⟩, by simp [intOf]; omega⟩
  ·obtain rfl : k = L.length := by omega
   rw [List.drop_length, difF, List.append_nil] at hall
   subst hall
   have hst2 := (hst.perm (star_left_comm _ _ _)).right
   have HST := Lib.hid hst2; clear hst hst2 hal
   go_wp2_with fail
   go_ret2
   exact ⟨_, rfl, HST.out⟩
end Go.Proofs.YtboflbdniogcdaaGreatDoor
namespace Go.Proofs.YtboflbdniogcdaaGreatDoor
open Go.RowKit Go.Mz
set_option linter.unusedVariables false
set_option linter.unusedSimpArgs false
set_option maxRecDepth 100000
theorem getD_of {W : List (List Nat)} {i : Nat} {w : List Nat} (h : W[i]? = some w) : W.getD i [] = w := by
 rw [List.getD_eq_getElem?_getD, h]; rfl
theorem kbits_ge (black : Bool) : ∀ K : List Nat, (∀ i ∈ K, i < 104) → K.length ≤ (kbits (faxW black) K).length ∧ (kbits (faxW black) K).length ≤ 13 * K.length := by
 intro K
 induction K with
 | nil => intro _; simp [kbits]
 | cons i K ih =>
  intro h
  have h1 := ih fun j hj => h j (by simp [hj])
  obtain ⟨v, hv, hvn⟩ := ne_fax black (i := i) (h i (by simp))
  have hl := le_fax black v (List.mem_of_getElem? hv)
  rw [kbits_cons, getD_of hv, List.length_append, List.length_cons]; omega
theorem tell_len (black : Bool) {n : Nat} (hn : n ≤ 32768) : (tellB black n).length ≤ 300 := by
 have h1 := (kbits_ge black (placesL n) (fun i hi => placesL_lt i hi)).2
 have h3 : (placesL n).length ≤ 20 := by
  rw [placesL]
  simp only [List.length_append, List.length_replicate, List.length_singleton]
  split
  ·simp; omega
  ·simp; omega
 rw [tellB]
 omega
theorem chg_inc (p : List Nat) : (chg p).Pairwise (· < ·) := chF_inc p 0 0
end Go.Proofs.YtboflbdniogcdaaGreatDoor
namespace Go.Proofs.YtboflbdniogcdaaGreatDoor
open Go.RowKit Go.Mz
set_option linter.unusedVariables false
set_option linter.unusedSimpArgs false
set_option maxRecDepth 100000
theorem chg_len (p : List Nat) : (chg p).length ≤ p.length := chF_len p 0 0
theorem fits_any (w : World) (width : Int) : Calls Tryz.prog 93 #[.int .i64 width] w fun e w' => e = .returned (.bool (decide (1 ≤ width ∧ width ≤ 32768))) ∧ w' = w := by
 by_cases h1 : 1 ≤ width
 ·by_cases h2 : width ≤ 32768
  ·rw [decide_eq_true ⟨h1, h2⟩]
   go_enter Tryz.func93, Tryz.ntmps93
   go_wp2_with fail
   go_ret
   exact ⟨rfl, rfl⟩
  ·rw [decide_eq_false (by omega)]
   go_enter Tryz.func93, Tryz.ntmps93
   go_wp2_with fail
   go_ret
   exact ⟨rfl, rfl⟩
 ·rw [decide_eq_false (by omega)]
  go_enter Tryz.func93, Tryz.ntmps93
  go_wp2_with fail
  go_ret
  exact ⟨rfl, rfl⟩
theorem fits_ok (w : World) {width : Nat} (h1 : 1 ≤ width) (h2 : width ≤ 32768) : Calls Tryz.prog 93 #[.int .i64 (width : Int)] w fun e w' => e = .returned (.bool true) ∧ w' = w := by
 have := fits_any w (width : Int)
 rw [decide_eq_true (by omega)] at this
 exact this
theorem lensF_le (l : List Nat) (width : Nat) : ∀ was, (∀ x ∈ l, x < width) → ∀ y ∈ lensF was l width, y ≤ width := by
 induction l with
 | nil => intro was _ y hy; simp [lensF] at hy; omega
 | cons x r ih =>
  intro was h y hy
  rw [lensF] at hy
  rcases List.mem_cons.1 hy with rfl | hy
  ·have := h x (by simp); omega
  ·exact ih x (fun z hz => h z (by simp [hz])) y hy
set_option maxHeartbeats 4000000 in
theorem writeRow_any {w0 w : World} {F : SProp} {C Wb : Nat} {acc : List Nat} {low : Bool} (h : St w0 w (codes C * (wrt Wb acc low * F))) {l : List Nat} {v : Value} {width : Nat} (hr : Stb w0 F (fun w => Reads w 1 v l.length (l.map nv))) (hp : l.Pairwise (· < ·)) (hb : ∀ x ∈ l, x < width) (h1 : 1 ≤ width) (hw : width ≤ 32768) (hl : l.length ≤ 100000) (hm : acc.length ≤ 900000000) :
  Calls Tryz.prog 94 #[.pointer (some ⟨Wb, 0, none⟩), .pointer (some ⟨C, 0, none⟩), v, .int .i64 (width : Int)] w fun e w' => e = .returned (.int .i64 0) ∧ St w0 w' (codes C * (wrt Wb (acc ++ rowB false (lensF 0 l width)) low * F)) := by
 have HFT := Lib.hid (fun w => fits_ok w h1 hw)
 have HLN := Lib.hid (lengths12_any h ((hr.more _).more _) hp hb hw (by omega))
 obtain ⟨al, c, rfl⟩ := (hr w h.right.right).sub
 have hle := lensF_le l width 0 hb
 have hll := lensF_len l width 0
 generalize lensF 0 l width = L at *
 have hLl : L.length ≤ 100001 := by omega
 have HLE := Lib.hid hle
 clear hle hll hb hp hr
 have H := Lib.hid h; clear h
 obtain ⟨res, hres⟩ : ∃ res, res = acc ++ rowB false L := ⟨_, rfl⟩
 rw [← hres]
 have HRES := Lib.hid hres; clear hres
 go_enter Tryz.func94, Tryz.ntmps94
 go_wp2_with fail
 refine (HFT.out _).mono ?_
 rintro e w2 ⟨rfl, rfl⟩
 go_wp2_with fail
 refine HLN.out.mono ?_
 rintro e w3 ⟨v3, rfl, h3⟩
 obtain ⟨a3, c3, rfl⟩ := h3.reads.sub
 have H3 := Lib.hid (h3.perm (show _ = codes C * (wrt Wb acc low * (own 3 1 (.slice a3 L.length c3) L.length (L.map nv) * F)) by ac_rfl)); clear h3 HLN HFT H
 go_wp2_with fail
 go_loopw [10, 32] (fun ve vi wr => ∃ (k : Nat) (acc2 : List Nat), k ≤ L.length ∧ ve = .int .i64 0 ∧ vi = .int .i64 k ∧ acc2.length ≤ acc.length + 300 * k ∧ acc2 ++ rowB (decide (k % 2 = 1)) (L.drop k) = res ∧ St w0 wr (codes C * (wrt Wb acc2 low * (own 3 1 (.slice a3 L.length c3) L.length (L.map nv) * F)))) (fun _ vi _ => L.length - (intOf vi).toNat)
 case atStart => exact ⟨0, acc, by omega, rfl, rfl, by omega, HRES.out.symm, H3.out⟩
 case round =>
  clear H3 HRES
  obtain ⟨k, acc2, hk, rfl, rfl, hacc, hall, hst⟩ := hrel
  by_cases hkn : k < L.length
  ·obtain ⟨g, o, rfl, e1⟩ := hst.right.right.reads.at_ hkn
   have hx := List.getElem?_eq_getElem hkn
   rw [List.getElem?_map, hx] at e1
   simp only [Option.map_some, nv] at e1
   rw [List.drop_eq_getElem_cons hkn, rowB, ← List.append_assoc] at hall
   have hxw := HLE.out L[k] (List.getElem_mem _)
   have hpar : (!decide (k % 2 = 1)) = decide ((k + 1) % 2 = 1) := by
    rcases Nat.mod_two_eq_zero_or_one k with h | h
    ·rw [h, show (k + 1) % 2 = 1 by omega]; rfl
    ·rw [h, show (k + 1) % 2 = 0 by omega]; rfl
   rw [hpar] at hall
   have hkl : (k : Int) < L.length := by omega
   have hm2 : (k : Int) % 2 = ((k % 2 : Nat) : Int) := by omega
   clear hx hpar
   generalize L[k] = x at *
   have htl : ∀ b, (tellB b x).length ≤ 300 := fun b => tell_len b (by omega)
   have HTL := Lib.hid htl
   have HALL := Lib.hid hall
   have HACC := Lib.hid hacc
   clear htl hall
   rcases Nat.mod_two_eq_zero_or_one k with h2 | h2
   ·rw [h2] at HALL hm2
    have HCW := Lib.hid (cwrite_any hst x (by omega) false (by omega) (j := (x : Int)) rfl)
    have HT2 := Lib.hid (HTL.out false)
    clear hst h2 hacc HTL
    go_wp2_with fail
    refine HCW.out.mono ?_
    rintro e w5 ⟨rfl, h6⟩
    have H6 := Lib.hid h6; clear h6 HCW
    go_wp2_with fail
    exact ⟨⟨k + 1, acc2 ++ tellB false x, by omega, rfl, by go_num, by have := HT2.out; have := HACC.out; rw [List.length_append]; omega, HALL.out, H6.out⟩, by simp [intOf]; omega⟩
   ·rw [h2] at HALL hm2
    have HCW := Lib.hid (cwrite_any hst x (by omega) true (by omega) (j := (x : Int)) rfl)
    have HT2 := Lib.hid (HTL.out true)
    clear hst h2 hacc HTL
    go_wp2_with fail
    refine HCW.out.mono ?_
    rintro e w5 ⟨rfl, h6⟩
    have H6 := Lib.hid h6; clear h6 HCW
    go_wp2_with fail
    exact ⟨⟨k + 1, acc2 ++ tellB true x, by omega, rfl, by go_num, by have := HT2.out; have := HACC.out; rw [List.length_append]; omega, HALL.out, H6.out⟩, by simp [intOf]; omega⟩
  ·obtain rfl : k = L.length := by omega
   rw [List.drop_length, rowB, List.append_nil] at hall
   subst hall
   have hst2 := (hst.perm (show _ = own 3 1 (.slice a3 L.length c3) L.length (L.map nv) * (codes C * (wrt Wb acc2 low * F)) by ac_rfl)).right
   have HST := Lib.hid hst2; clear hst hst2 hacc
   go_wp2_with fail
   go_ret
   exact ⟨rfl, HST.out⟩
end Go.Proofs.YtboflbdniogcdaaGreatDoor
namespace Go.Proofs.YtboflbdniogcdaaGreatDoor
open Go.RowKit Go.Mz
set_option linter.unusedVariables false
set_option linter.unusedSimpArgs false
set_option maxRecDepth 100000
theorem mod_len (i : Nat) : (modW.getD i []).length ≤ 7 := by
 rw [List.getD_eq_getElem?_getD]
 cases hx : modW[i]? with
 | none => simp
 | some v => exact (le_mod v (List.mem_of_getElem? hx)).2
theorem agB_end {row top : List Nat} {width : Nat} (f : Nat) {at' : Int} (b : Bool) (h : ¬ at' < width) : agB row top width f at' b = [] := by
 cases f with
 | zero => rfl
 | succ f => rw [agB, if_neg h]
theorem two_pack {w : World} {f1 f2 : Nat} {A1 A2 A3 : Array Value} {P1 P2 P3 : World → Prop} {r : Value}
  (h1 : Calls Tryz.prog f1 A1 w fun e w' => e = .returned r ∧ P1 w')
  (h2 : ∀ w, P1 w → Calls Tryz.prog f2 A2 w fun e w' => e = .returned r ∧ P2 w')
  (h3 : ∀ w, P2 w → Calls Tryz.prog f2 A3 w fun e w' => e = .returned r ∧ P3 w') :
  Calls Tryz.prog f1 A1 w fun e w' => e = .returned r ∧ Calls Tryz.prog f2 A2 w' fun e w' => e = .returned r ∧ Calls Tryz.prog f2 A3 w' fun e w' => e = .returned r ∧ P3 w' := by
 refine h1.mono ?_
 rintro e w' ⟨rfl, h⟩
 refine ⟨rfl, (h2 _ h).mono ?_⟩
 rintro e w' ⟨rfl, h⟩
 exact ⟨rfl, h3 _ h⟩
set_option maxHeartbeats 1000000 in
theorem writeAgainst_any {w0 w : World} {F : SProp} {C Wb : Nat} {acc : List Nat} {low : Bool} (h : St w0 w (codes C * (wrt Wb acc low * F))) {row top : List Nat} {vr vt : Value} {width : Nat} (hr : Stb w0 F (fun w => Reads w 1 vr row.length (row.map nv))) (ht : Stb w0 F (fun w => Reads w 1 vt top.length (top.map nv)))
  (hrp : row.Pairwise (· < ·)) (hrb : ∀ x ∈ row, x < width) (htp : top.Pairwise (· < ·)) (htb : ∀ x ∈ top, x < width) (h1 : 1 ≤ width) (hw : width ≤ 32768) (hrl : row.length ≤ 100000) (htl : top.length ≤ 100000) (hm : acc.length ≤ 900000000) :
  Calls Tryz.prog 98 #[.pointer (some ⟨Wb, 0, none⟩), .pointer (some ⟨C, 0, none⟩), vr, vt, .int .i64 (width : Int)] w fun e w' => e = .returned (.int .i64 0) ∧ St w0 w' (codes C * (wrt Wb (acc ++ agB row top width (width + 1) (-1) false) low * F)) := by
 have HFT := Lib.hid (fun w => fits_ok w h1 hw)
 have hrg : ∀ (l : List Nat), l.Pairwise (· < ·) → (∀ x ∈ l, x < width) → rightI (-1) (width : Int) (l.map Int.ofNat) = true := fun l h1 h2 => right_nat l _ _ (fun x hx => ⟨by omega, h2 x hx⟩) h1
 have HR1 := Lib.hid (fun (w : World) (hw : St w0 w F) => (by
  have C := right12_any (l := row.map Int.ofNat) (v := vr) (width : Int) (w := w) (by rw [map_nv, List.length_map]; exact hr w hw)
  rw [hrg row hrp hrb] at C; exact C : Calls Tryz.prog 126 #[vr, .int .i64 (width : Int)] w fun e w' => e = .returned (.bool true) ∧ w' = w))
 have HR2 := Lib.hid (fun (w : World) (hw : St w0 w F) => (by
  have C := right12_any (l := top.map Int.ofNat) (v := vt) (width : Int) (w := w) (by rw [map_nv, List.length_map]; exact ht w hw)
  rw [hrg top htp htb] at C; exact C : Calls Tryz.prog 126 #[vt, .int .i64 (width : Int)] w fun e w' => e = .returned (.bool true) ∧ w' = w))
 have HNR := Lib.hid (fun (at' : Int) (h : at' < width) (b : Bool) => nextF_bd (at' := at') (toB := b) (width := width) row true hrp hrb h)
 have HNT := Lib.hid (fun (at' : Int) (h : at' < width) (b : Bool) => nextF_bd (at' := at') (toB := b) (width := width) top true htp htb h)
 have HCR := Lib.hid (fun (w : World) (hw : St w0 w F) (at' : Int) (b : Bool) => next_any at' b width (hr w hw) (by omega))
 have HCT := Lib.hid (fun (w : World) (hw : St w0 w F) (at' : Int) (b : Bool) => next_any at' b width (ht w hw) (by omega))
 clear hrg hrp hrb htp htb hr ht
 have H := Lib.hid h; clear h
 obtain ⟨res, hres⟩ : ∃ res, acc ++ agB row top width (width + 1) (-1) false = res := ⟨_, rfl⟩
 rw [hres]
 have HRES := Lib.hid hres; clear hres hrl htl
 go_enter Tryz.func98, Tryz.ntmps98
 go_wp2_with fail
 refine (HFT.out _).mono ?_
 rintro e w2 ⟨rfl, rfl⟩
 go_wp2_with fail
 refine (HR1.out _ H.out.right.right).mono ?_
 rintro e w2 ⟨rfl, rfl⟩
 go_wp2_with fail
 refine (HR2.out _ H.out.right.right).mono ?_
 rintro e w2 ⟨rfl, rfl⟩
 clear HR1 HR2 HFT
 go_wp2_with fail
 go_loopg [11, 12] (width + 1) (fun g vb va wr => ∃ (at' : Int) (b : Bool) (acc2 : List Nat), vb = .bool b ∧ va = .int .i64 at' ∧ -1 ≤ at' ∧ at' ≤ width ∧ (width : Int) ≤ g + at' ∧ acc2.length + 700 * g ≤ acc.length + 700 * (width + 1) ∧ acc2 ++ agB row top width g at' b = res ∧ St w0 wr (codes C * (wrt Wb acc2 low * F)))
 case atStart => exact ⟨-1, false, acc, rfl, rfl, by omega, by omega, by omega, by omega, HRES.out, H.out⟩
 case round =>
  clear H HRES
  obtain ⟨at', b, acc2, rfl, rfl, ha1, ha2, hg, hacc, hall, hst⟩ := hrel
  by_cases hlt : at' < width
  ·obtain ⟨g, rfl⟩ : ∃ g, gk = g + 1 := ⟨gk - 1, by omega⟩
   rw [agB, if_pos hlt] at hall
   simp only at hall
   have nr := HNR.out at' hlt (!b)
   have nt := HNT.out at' hlt (!b)
   have HC1 := Lib.hid (HCR.out _ hst.right.right at' (!b))
   have HC2 := Lib.hid (fun w hw => HCT.out w hw at' (!b))
   generalize nextF true at' (!b) width row = a at *
   generalize nextF true at' (!b) width top = c at *
   obtain ⟨a1, a2⟩ := a
   obtain ⟨c1, c2⟩ := c
   simp only at hall nr nt HC1 HC2
   obtain ⟨nr1, nr2, nr3, _⟩ := nr
   obtain ⟨nt1, nt2, nt3, _⟩ := nt
   have HALL := Lib.hid hall; have HG := Lib.hid hg; have HACC := Lib.hid hacc
   have hacl : acc2.length ≤ 930000000 := by omega
   clear hall hg hacc
   have HST := Lib.hid hst; clear hst
   go_wp2_with fail
   refine HC1.out.mono ?_
   rintro e w3 ⟨rfl, n3, rfl⟩
   have h3 := HST.out.drewN n3
   have HC3 := Lib.hid (HC2.out _ h3.right.right)
   have H3 := Lib.hid h3; clear h3 HC1 HC2 HST
   generalize wr.drewN n3 = W3 at *
   go_wp2_with fail
   refine HC3.out.mono ?_
   rintro e w4 ⟨rfl, n4, rfl⟩
   have h4 := H3.out.drewN n4
   have H4 := Lib.hid h4; clear h4 H3 HC3
   generalize W3.drewN n4 = W4 at *
   by_cases hp : c2 < a1
   ·have hpi : (c2 : Int) < a1 := by omega
    have hall := HALL.out
    rw [if_pos hp, ← List.append_assoc] at hall
    have HALL2 := Lib.hid hall; clear hall HALL
    have HCW := Lib.hid (cwriteMode_any H4.out 8 (by omega) (by omega) (j := 5) (by decide))
    have HML := Lib.hid (mod_len 8)
    go_wp2_with fail
    refine HCW.out.mono ?_
    rintro e w5 ⟨rfl, h5⟩
    have H5 := Lib.hid h5; clear h5 HCW H4
    go_wp2_with fail
    go_roundg g
    case measure => omega
    case rel => exact ⟨c2, b, acc2 ++ modW.getD 8 [], rfl, rfl, by omega, by omega, by have := HG.out; omega, by have := HACC.out; have := HML.out; rw [List.length_append]; omega, HALL2.out, H5.out⟩
   ·have hpi : ¬ (c2 : Int) < a1 := by omega
    have hall := HALL.out
    rw [if_neg hp] at hall
    clear HALL
    by_cases hv : a1 ≤ c1 + 3 ∧ c1 ≤ a1 + 3
    ·rw [if_pos hv, ← List.append_assoc] at hall
     have hv1 : (-3 : Int) ≤ (a1 : Int) - c1 := by omega
     have hv2 : (a1 : Int) - c1 ≤ 3 := by omega
     have HALL2 := Lib.hid hall; clear hall
     have HCW := Lib.hid (cwriteMode_any H4.out (a1 + 3 - c1) (by omega) (by omega) (j := (a1 : Int) - c1) (by omega))
     have HML := Lib.hid (mod_len (a1 + 3 - c1))
     clear hv
     go_wp2_with fail
     refine HCW.out.mono ?_
     rintro e w5 ⟨rfl, h5⟩
     have H5 := Lib.hid h5; clear h5 HCW H4
     go_wp2_with fail
     go_roundg g
     case measure => omega
     case rel => exact ⟨a1, !b, acc2 ++ modW.getD (a1 + 3 - c1) [], rfl, rfl, by omega, by omega, by have := HG.out; omega, by have := HACC.out; have := HML.out; rw [List.length_append]; omega, HALL2.out, H5.out⟩
    ·rw [if_neg hv] at hall
     have hd1 : (-3 : Int) ≤ (a1 : Int) - c1 ∧ ¬ (a1 : Int) - c1 ≤ 3 ∨ ¬ (-3 : Int) ≤ (a1 : Int) - c1 := by omega
     simp only [← List.append_assoc] at hall
     obtain ⟨q, hq⟩ : ∃ q : Nat, q = (max at' 0).toNat := ⟨_, rfl⟩
     rw [← hq] at hall
     have hmx : max at' 0 = (q : Int) := by omega
     have hq1 : (a1 : Int) - (q : Nat) = ((a1 - q : Nat) : Int) := by omega
     have hq2 : (a2 : Int) - a1 = ((a2 - a1 : Nat) : Int) := by omega
     have hq3 : a1 - q ≤ 32768 := by omega
     have hq4 : a2 - a1 ≤ 32768 := by omega
     have HML := Lib.hid (mod_len 7)
     have HT1 := Lib.hid (tell_len b hq3)
     have HT2 := Lib.hid (tell_len (!b) hq4)
     have hl1 : (acc2 ++ modW.getD 7 []).length ≤ 940000000 := by have := HML.out; rw [List.length_append]; omega
     have hl2 : (acc2 ++ modW.getD 7 [] ++ tellB b (a1 - q)).length ≤ 940000000 := by have := HML.out; have := HT1.out; simp only [List.length_append]; omega
     have hl3 : (acc2 ++ modW.getD 7 [] ++ tellB b (a1 - q) ++ tellB (!b) (a2 - a1)).length ≤ acc2.length + 7 + 300 + 300 := by have := HML.out; have := HT1.out; have := HT2.out; simp only [List.length_append]; omega
     have HCW := Lib.hid (cwriteMode_any H4.out 7 (by omega) (by omega) (j := 4) (by decide))
     have HC5 := Lib.hid (fun w (h : St w0 w (codes C * (wrt Wb (acc2 ++ modW.getD 7 []) low * F))) => cwrite_any h (a1 - q) hq3 b (by omega) (j := ((a1 - q : Nat) : Int)) rfl)
     have HC6 := Lib.hid (fun w (h : St w0 w (codes C * (wrt Wb (acc2 ++ modW.getD 7 [] ++ tellB b (a1 - q)) low * F))) => cwrite_any h (a2 - a1) hq4 (!b) (by omega) (j := ((a2 - a1 : Nat) : Int)) rfl)
     have HP := Lib.hid (two_pack HCW.out HC5.out HC6.out)
     have HE := Lib.hid (show (acc2 ++ modW.getD 7 [] ++ tellB b (a1 - q) ++ tellB (!b) (a2 - a1)).length ≤ acc2.length + 7 + 300 + 300 ∧ acc2 ++ modW.getD 7 [] ++ tellB b (a1 - q) ++ tellB (!b) (a2 - a1) ++ agB row top width g (↑a2) b = res ∧ acc2.length + 700 * (g + 1) ≤ acc.length + 700 * (width + 1) ∧ (width : Int) ≤ (a2 : Int) + g ∧ a2 ≤ width ∧ at' < a2 from ⟨hl3, hall, HACC.out, by have := HG.out; omega, by omega, by omega⟩)
     clear HML HT1 HT2 HCW HC5 HC6 HG HACC hl1 hl2 hl3 hall hq H4 HCR HCT HNR HNT hv hacl
     generalize acc2 ++ modW.getD 7 [] ++ tellB b (a1 - q) ++ tellB (!b) (a2 - a1) = acc3 at *
     generalize a1 - q = e1 at *
     generalize a2 - a1 = e2 at *
     have HQ := Lib.hid (⟨hmx, hq1, hq2, hq3, hq4⟩ : _ ∧ _ ∧ _ ∧ _ ∧ _)
     clear hmx hq1 hq2 hq3 hq4
     have HB := Lib.hid (⟨ha1, ha2, hlt, nr1, nr2, nr3⟩ : _ ∧ _ ∧ _ ∧ _ ∧ _ ∧ _)
     have hba : a1 ≤ 32768 := by omega
     have hbc : c1 ≤ 32768 := by omega
     clear ha1 ha2 nr1 nr2 nr3 nt1 nt2 nt3
     rcases hd1 with ⟨hv1, hv2⟩ | hv1 <;> (
      clear hp
      go_upto_region 10 with (fail)
      clear hpi hv1 hlt hba hbc
      try clear hv2
      obtain ⟨hmx, hq1, hq2, hq3, hq4⟩ := HQ.out
      go_wp2_with fail
      refine HP.out.mono ?_
      rintro e w5 ⟨rfl, HP5⟩
      have HP5 := Lib.hid HP5; clear HP
      go_wp2_with fail
      refine HP5.out.mono ?_
      rintro e w6 ⟨rfl, HP6⟩
      have HP6 := Lib.hid HP6; clear HP5
      go_wp2_with fail
      refine HP6.out.mono ?_
      rintro e w7 ⟨rfl, h7⟩
      have H7 := Lib.hid h7; clear h7 HP6
      go_wp2_with fail
      obtain ⟨he1, he2, he3, he4, he5, he6⟩ := HE.out
      have hb := HB.out
      go_roundg g
      case measure => omega
      case rel => exact ⟨a2, b, acc3, rfl, rfl, by omega, by omega, by omega, by omega, he2, H7.out⟩)
  ·have hall' : acc2 = res := by rw [← hall, agB_end _ _ hlt, List.append_nil]
   subst hall'
   have HST := Lib.hid hst; clear hst hacc hall
   go_wp2_with fail
   go_ret
   exact ⟨rfl, HST.out⟩
end Go.Proofs.YtboflbdniogcdaaGreatDoor
namespace Go.Proofs.YtboflbdniogcdaaGreatDoor
open Go.RowKit Go.Mz
set_option linter.unusedVariables false
set_option linter.unusedSimpArgs false
set_option maxRecDepth 100000
theorem rowB_len : ∀ (L : List Nat) (b : Bool), (∀ x ∈ L, x ≤ 32768) → (rowB b L).length ≤ 300 * L.length := by
 intro L
 induction L with
 | nil => intro b _; simp [rowB]
 | cons x r ih =>
  intro b h
  have h1 := tell_len b (h x (by simp))
  have h2 := ih (!b) (fun y hy => h y (by simp [hy]))
  rw [rowB, List.length_append, List.length_cons]; omega
theorem agB_len {row top : List Nat} {width : Nat} (hr : row.Pairwise (· < ·)) (hrb : ∀ x ∈ row, x < width) (ht : top.Pairwise (· < ·)) (htb : ∀ x ∈ top, x < width) (hw : width ≤ 32768) : ∀ (f : Nat) (at' : Int) (b : Bool), (agB row top width f at' b).length ≤ 700 * f := by
 intro f
 induction f with
 | zero => intro at' b; simp [agB]
 | succ f ih =>
  intro at' b
  rw [agB]
  by_cases hlt : at' < (width : Int)
  ·rw [if_pos hlt]
   simp only
   have nr := nextF_bd (at' := at') (toB := !b) (width := width) row true hr hrb hlt
   generalize nextF true at' (!b) width row = a at *
   generalize nextF true at' (!b) width top = c at *
   split
   ·have := mod_len 8
    have := ih (c.2 : Int) b
    rw [List.length_append]; omega
   ·split
    ·have := mod_len (a.1 + 3 - c.1)
     have := ih (a.1 : Int) (!b)
     rw [List.length_append]; omega
    ·have := mod_len 7
     have := ih (a.2 : Int) b
     have := tell_len b (show a.1 - (max at' 0).toNat ≤ 32768 by omega)
     have := tell_len (!b) (show a.2 - a.1 ≤ 32768 by omega)
     simp only [List.length_append]; omega
  ·rw [if_neg hlt]; simp
end Go.Proofs.YtboflbdniogcdaaGreatDoor
namespace Go.Proofs.YtboflbdniogcdaaGreatDoor
open Go.RowKit Go.Mz
set_option linter.unusedVariables false
set_option linter.unusedSimpArgs false
set_option maxRecDepth 100000
def rowsP : List (Value × List Nat) → SProp
 | [] => emp
 | x :: r => own 3 1 x.1 x.2.length (x.2.map nv) * rowsP r
theorem rowsP_snoc (R : List (Value × List Nat)) (x : Value × List Nat) : rowsP (R ++ [x]) = own 3 1 x.1 x.2.length (x.2.map nv) * rowsP R := by
 induction R with
 | nil => rfl
 | cons y r ih => rw [List.cons_append, rowsP, ih, rowsP]; ac_rfl
theorem rowsP_reads {w0 w : World} : ∀ (R : List (Value × List Nat)) (F : SProp), St w0 w (rowsP R * F) → ∀ x ∈ R, Reads w 1 x.1 x.2.length (x.2.map nv) := by
 intro R
 induction R with
 | nil => intro F _ x hx; cases hx
 | cons y r ih =>
  intro F h x hx
  have h : St w0 w (own 3 1 y.1 y.2.length (y.2.map nv) * (rowsP r * F)) := h.perm (by rw [rowsP, star_assoc])
  rcases List.mem_cons.1 hx with rfl | hx
  ·exact h.reads
  ·exact ih _ h.right x hx
theorem rowsP_nil {w0 w : World} {F : SProp} (h : St w0 w F) : St w0 w (rowsP [] * F) := h.perm (emp_star F).symm
theorem elemRows : ElemT Tryz.prog 78 79 1 24 (.slice none 0 0) :=
 ⟨Tryz.underlying78, info_parts (by kernel_rfl), rfl, by decide⟩
def encF (width : Nat) : List (List Nat) → List Nat → List Nat
 | [], acc => acc
 | l :: r, acc => encF width r (alignL (acc ++ rowB false (lensF 0 l width)))
def RowOk (width : Nat) (l : List Nat) : Prop := l.Pairwise (· < ·) ∧ (∀ x ∈ l, x < width) ∧ l.length ≤ 400
theorem alignL_len (l : List Nat) : (alignL l).length ≤ l.length + 7 := by
 rw [alignL, List.length_append, List.length_replicate]; omega
theorem rowB_lenF {width : Nat} {l : List Nat} (h : RowOk width l) (hw : width ≤ 32768) : (rowB false (lensF 0 l width)).length ≤ 300 * 401 := by
 have := rowB_len (lensF 0 l width) false (fun x hx => by have := lensF_le l width 0 h.2.1 x hx; omega)
 rw [lensF_len] at this
 have := h.2.2
 omega
set_option maxHeartbeats 4000000 in
theorem encode_any {w0 w : World} {F : SProp} (h : St w0 w F) (htab : Tab w0 F) {R : List (Value × List Nat)} {v : Value} (hv : Stb w0 F (fun w => Reads w 1 v R.length (R.map Prod.fst))) (hr : Stb w0 F (fun w => ∀ x ∈ R, Reads w 1 x.1 x.2.length (x.2.map nv))) {width : Nat} (h1 : 1 ≤ width) (hw : width ≤ 32768) (hR : ∀ x ∈ R, RowOk width x.2) (hN : R.length ≤ 1000) :
  Calls Tryz.prog 44 #[v, .int .i64 (width : Int)] w fun e w' => ∃ v', e = .returned (.tuple #[v', .int .i64 0]) ∧ St w0 w' (own 5 1 v' (((encF width (R.map Prod.snd) []).length + 7) / 8) ((bytesB false (encF width (R.map Prod.snd) [])).map bv) * F) := by
 have HFT := Lib.hid (fun w => fits_ok w h1 hw)
 obtain ⟨a0, c0, rfl⟩ := (hv w h).sub
 have HV := Lib.hid hv; have HRR := Lib.hid hr; have HRO := Lib.hid hR
 have HT := Lib.hid htab
 obtain ⟨res, hres⟩ : ∃ res, encF width (R.map Prod.snd) [] = res := ⟨_, rfl⟩
 rw [hres]
 have HRES := Lib.hid hres; clear hres htab hv hr hR
 have H := Lib.hid h; clear h
 go_enter Tryz.func44, Tryz.ntmps44
 go_wp2_with fail
 refine (newWriter_any (low := false) H.out).mono ?_
 rintro e w3 ⟨Wb, rfl, h3⟩
 have H3 := Lib.hid h3; clear h3 H
 go_wp2_with fail
 refine (newCodes_any H3.out (fun w h => HT.out w h.right)).mono ?_
 rintro e w4 ⟨C, rfl, h4⟩
 have H4 := Lib.hid h4; clear h4 H3
 go_wp2_with fail
 refine (HFT.out _).mono ?_
 rintro e w2 ⟨rfl, rfl⟩
 go_wp2_with fail
 go_loopw [18] (fun vi wr => ∃ (k : Nat) (acc : List Nat), k ≤ R.length ∧ vi = .int .i64 k ∧ acc.length ≤ 130000 * k ∧ encF width ((R.map Prod.snd).drop k) acc = res ∧ St w0 wr (codes C * (wrt Wb acc false * F))) (fun vi _ => R.length - (intOf vi).toNat)
 case atStart => exact ⟨0, [], by omega, rfl, by simp, HRES.out, H4.out⟩
 case round =>
  clear H4 HRES
  obtain ⟨k, acc, hk, rfl, hal, hall, hst⟩ := hrel
  by_cases hkn : k < R.length
  ·have hkl : (k : Int) < R.length := by omega
   obtain ⟨g, o, rfl, e1⟩ := (HV.out wr hst.right.right).at_ hkn
   have hx := List.getElem?_eq_getElem hkn
   rw [List.getElem?_map, hx] at e1
   simp only [Option.map_some] at e1
   have hmem := List.getElem_mem hkn
   have hd : (R.map Prod.snd).drop k = R[k].2 :: (R.map Prod.snd).drop (k + 1) := by
    rw [List.drop_eq_getElem_cons (by simpa using hkn), List.getElem_map]
   rw [hd, encF] at hall
   have hro := HRO.out _ hmem
   have hrd : Stb w0 F (fun w => Reads w 1 R[k].1 R[k].2.length (R[k].2.map nv)) := fun w h => HRR.out w h _ hmem
   clear hx hd hmem
   obtain ⟨⟨xv, xl⟩, hxx⟩ : ∃ x, R[k] = x := ⟨_, rfl⟩
   rw [hxx] at e1 hall hro hrd
   simp only at e1 hall hro hrd
   clear hxx
   obtain ⟨ax, cx, rfl⟩ := (hrd wr hst.right.right).sub
   have hbl := rowB_lenF hro hw
   have HW := Lib.hid (writeRow_any hst hrd hro.1 hro.2.1 h1 hw (by have := hro.2.2; omega) (by omega))
   have hal2 := alignL_len (acc ++ rowB false (lensF 0 xl width))
   have hal3 : (acc ++ rowB false (lensF 0 xl width)).length = acc.length + (rowB false (lensF 0 xl width)).length := List.length_append
   have hal4 : (acc ++ rowB false (lensF 0 xl width)).length ≤ 130000000 + 130000 := by omega
   have hal5 : (alignL (acc ++ rowB false (lensF 0 xl width))).length ≤ 130000 * (k + 1) := by omega
   have HALL := Lib.hid (⟨hall, hal5⟩ : _ ∧ _)
   clear hall hal2 hal3 hal5 hbl hro hrd hst
   generalize acc ++ rowB false (lensF 0 xl width) = acc2 at *
   go_wp2_with fail
   refine HW.out.mono ?_
   rintro e w5 ⟨rfl, h5⟩
   have HA := Lib.hid (walign_any (h5.perm (star_left_comm _ _ _)) (by omega)); clear h5 HW
   go_wp2_with fail
   refine HA.out.mono ?_
   rintro e w6 ⟨rfl, h6⟩
   have H6 := Lib.hid (h6.perm (star_left_comm _ _ _)); clear h6 HA
   go_wp2_with fail
   exact ⟨⟨k + 1, alignL acc2, by omega, by go_num, HALL.out.2, HALL.out.1, H6.out⟩, by simp [intOf]; omega⟩
  ·obtain rfl : k = R.length := by omega
   rw [List.drop_of_length_le (by simp), encF] at hall
   have HRS := Lib.hid hall
   have HBY := Lib.hid (bytes_any (hst.perm (star_left_comm _ _ _)))
   clear hst hall
   go_wp2_with fail
   refine HBY.out.mono ?_
   rintro e w5 ⟨v5, rfl, h5⟩
   obtain ⟨a5, c5, rfl⟩ := h5.reads.sub
   have H5 := Lib.hid (h5.perm (show _ = wrt Wb acc false * (codes C * (own 5 1 (.slice a5 ((acc.length + 7) / 8) c5) ((acc.length + 7) / 8) ((bytesB false acc).map bv) * F)) by ac_rfl)).right.right
   clear h5 HBY
   go_wp2_with fail
   go_ret2
   rw [← HRS.out]
   exact ⟨_, rfl, H5⟩
end Go.Proofs.YtboflbdniogcdaaGreatDoor
