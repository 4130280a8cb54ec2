/-
  Layer 13 (faxcode): lengths and modes are read and written.
-/
import Derived.Test.YtdjoigobmmaaiaaDoorFaxS
import Derived.Test.YtdjoigobmmaaiaaDoorTrieC
import Derived.Deep.LoopGhost
namespace Go.Proofs.YtdjoigobmmaaiaaDoor
open Go.RowKit Go.Mz
set_option linter.unusedVariables false
set_option linter.unusedSimpArgs false
set_option maxRecDepth 100000

/-- The places of the words that tell a length. -/
def placesL (n : Nat) : List Nat := List.replicate (n / 2560) 103 ++ ((if 64 ≤ n % 2560 then [63 + n % 2560 / 64] else []) ++ [n % 2560 % 64])
def tellB (black : Bool) (n : Nat) : List Nat := kbits (faxW black) (placesL n)
theorem placesL_great {n : Nat} (h : 2560 ≤ n) : placesL n = 103 :: placesL (n - 2560) := by
  have e1 : n / 2560 = (n - 2560) / 2560 + 1 := by omega
  have e2 : n % 2560 = (n - 2560) % 2560 := by omega
  rw [placesL, placesL, e1, e2, List.replicate_succ]; rfl
theorem placesL_more {n : Nat} (h : n < 2560) (h2 : 64 ≤ n) : placesL n = (63 + n / 64) :: placesL (n % 64) := by
  have e1 : n / 2560 = 0 := by omega
  have e2 : n % 2560 = n := by omega
  have e3 : n % 64 / 2560 = 0 := by omega
  have e4 : n % 64 % 2560 = n % 64 := by omega
  have e5 : n % 64 % 64 = n % 64 := by omega
  rw [placesL, placesL, e1, e2, e3, e4, e5, if_pos h2, if_neg (by omega)]; rfl
theorem placesL_less {n : Nat} (h : n < 64) : placesL n = [n] := by
  have e1 : n / 2560 = 0 := by omega
  have e2 : n % 2560 = n := by omega
  have e5 : n % 64 = n := by omega
  rw [placesL, e1, e2, e5, if_neg (by omega)]; rfl
theorem placesL_lt {n : Nat} : ∀ i ∈ placesL n, i < 104 := by
  intro i hi
  rw [placesL] at hi
  rcases List.mem_append.1 hi with hi | hi
  · rw [List.mem_replicate] at hi; omega
  · rcases List.mem_append.1 hi with hi | hi
    · split at hi
      · rw [List.mem_singleton] at hi; omega
      · cases hi
    · rw [List.mem_singleton] at hi; omega
theorem kbits_cons (W : List (List Nat)) (i : Nat) (K : List Nat) : kbits W (i :: K) = W.getD i [] ++ kbits W K := by simp [kbits]

/-- A length of bits, from a place on: the place behind what was read; the length, or the error. -/
def readFx (W : List (List Nat)) (t : List Nat) (most : Int) : Nat → Nat → Nat → Nat × (Nat ⊕ Nat)
  | 0, p, _ => (p, .inr 99)
  | f + 1, p, n =>
    match rdW W [] (t.drop p) with
    | (k, .inr e) => (p + k, .inr e)
    | (k, .inl i) => if most < ((n + faxL i : Nat) : Int) then (p + k, .inr 5) else if i < 64 then (p + k, .inl (n + faxL i)) else readFx W t most f (p + k) (n + faxL i)
def readL (black : Bool) (t : List Nat) (most : Int) (p : Nat) : Nat × (Nat ⊕ Nat) := readFx (faxW black) t most (t.length + 1 - p) p 0
def readMd (t : List Nat) (p : Nat) : Nat × (Int ⊕ Nat) :=
  match rdW modW [] (t.drop p) with
  | (k, .inr e) => (p + k, .inr e)
  | (k, .inl i) => if i = 9 then (p + k, .inr 9) else (p + k, .inl ((i : Int) - 3))
def FxR (r : Nat × (Nat ⊕ Nat)) (z : Int) (x p' : Nat) : Prop :=
  p' = r.1 ∧ match r.2 with
  | .inl n => z = n ∧ x = 0
  | .inr e => z = 0 ∧ x = e
def MdR (r : Nat × (Int ⊕ Nat)) (z : Int) (x p' : Nat) : Prop :=
  p' = r.1 ∧ match r.2 with
  | .inl n => z = n ∧ x = 0
  | .inr e => z = 0 ∧ x = e

theorem faxI_get {i : Nat} (h : i < 104) : faxI.getD i 0 = (faxL i : Nat) := by
  rw [List.getD_eq_getElem?_getD, faxI, List.getElem?_map, List.getElem?_range h]; rfl
theorem modI_get {i : Nat} (h : i < 10) : modI.getD i 0 = (i : Int) - 3 := by
  rw [List.getD_eq_getElem?_getD, modI, List.getElem?_map, List.getElem?_range h]; rfl
theorem faxL_le {i : Nat} (h : i < 104) : faxL i ≤ 2560 := by
  rw [faxL]; split <;> omega
theorem faxL_64 {i : Nat} : faxL i < 64 ↔ i < 64 := by
  rw [faxL]; split <;> omega

/-- A colour's book among all. -/
theorem codes_book {w0 w : World} {C : Nat} {F : SProp} (h : St w0 w (codes C * F)) (black : Bool) : ∃ (B : Nat) (R : SProp),
    St w0 w (bkI B (faxW black) faxI * (R * F)) ∧ (∀ w' G, St w0 w' (bkI B (faxW black) faxI * (R * G)) → St w0 w' (codes C * G)) ∧
    (∀ w' G, St w0 w' (bkI B (faxW black) faxI * (R * G)) → Calls Tryd.prog 87 #[.pointer (some ⟨C, 0, none⟩), .bool black] w' fun e w'' => e = .returned (.pointer (some ⟨B, 0, none⟩)) ∧ w' = w'') := by
  obtain ⟨B0, B1, Bm, h1⟩ := codes_open h
  cases black
  · refine ⟨B0, blk C (.cells #[.pointer (some ⟨B0, 0, none⟩), .pointer (some ⟨B1, 0, none⟩), .pointer (some ⟨Bm, 0, none⟩)] 91) * (bkI B1 (faxW true) faxI * bkM Bm modW modI), h1.perm (by ac_rfl), fun w' G h' => codes_shut (h'.perm (by ac_rfl)), fun w' G h' => ?_⟩
    have h2 := h'.perm (show _ = blk C (.cells #[.pointer (some ⟨B0, 0, none⟩), .pointer (some ⟨B1, 0, none⟩), .pointer (some ⟨Bm, 0, none⟩)] 91) * (bkI B0 (faxW false) faxI * (bkI B1 (faxW true) faxI * (bkM Bm modW modI * G))) by ac_rfl)
    have c0 := h2.cell 0 rfl
    clear h h1 h' h2
    go_enter Tryd.func87, Tryd.ntmps87
    go_wp2_with fail
    go_ret
    exact ⟨rfl, rfl⟩
  · refine ⟨B1, blk C (.cells #[.pointer (some ⟨B0, 0, none⟩), .pointer (some ⟨B1, 0, none⟩), .pointer (some ⟨Bm, 0, none⟩)] 91) * (bkI B0 (faxW false) faxI * bkM Bm modW modI), h1.perm (by ac_rfl), fun w' G h' => codes_shut (h'.perm (by ac_rfl)), fun w' G h' => ?_⟩
    have h2 := h'.perm (show _ = blk C (.cells #[.pointer (some ⟨B0, 0, none⟩), .pointer (some ⟨B1, 0, none⟩), .pointer (some ⟨Bm, 0, none⟩)] 91) * (bkI B0 (faxW false) faxI * (bkI B1 (faxW true) faxI * (bkM Bm modW modI * G))) by ac_rfl)
    have c1 := h2.cell 1 rfl
    clear h h1 h' h2
    go_enter Tryd.func87, Tryd.ntmps87
    go_wp2_with fail
    go_ret
    exact ⟨rfl, rfl⟩

set_option maxHeartbeats 40000000 in
theorem cread_any {w0 w : World} {C Rb : Nat} {F : SProp} {bs : List UInt8} {p : Nat} {low : Bool} (h : St w0 w (codes C * (rdr Rb bs p low * F))) (most : Int) (black : Bool) (hl : bs.length ≤ 100000000) (hp : p ≤ 8 * bs.length) :
    Calls Tryd.prog 78 #[.pointer (some ⟨C, 0, none⟩), .pointer (some ⟨Rb, 0, none⟩), .int .i64 most, .bool black] w fun e w' => ∃ (z : Int) (x p' : Nat),
      e = .returned (.tuple #[.int .i64 z, .int .i64 (x : Nat)]) ∧ FxR (readL black (bitsL low bs) most p) z x p' ∧ p' ≤ 8 * bs.length ∧ St w0 w' (codes C * (rdr Rb bs p' low * F)) := by
  obtain ⟨B, R, h1, HS, HBK⟩ := codes_book h black
  have HSH := Lib.hid HS; have HBO := Lib.hid HBK; clear HS HBK h
  generalize hRES : readL black (bitsL low bs) most p = RES at *
  have HRES := Lib.hid hRES; clear hRES
  rw [readL, length_bitsL] at HRES
  have H1 := Lib.hid h1; clear h1
  go_enter Tryd.func78, Tryd.ntmps78
  go_wp2_with fail
  go_loopg [10] (8 * bs.length + 1 - p) (fun g vn wr => ∃ (q n : Nat), vn = .int .i64 n ∧ 8 * bs.length + 1 ≤ g + q ∧ q ≤ 8 * bs.length ∧ n ≤ 2560 * q ∧ readFx (faxW black) (bitsL low bs) most g q n = RES ∧ St w0 wr (bkI B (faxW black) faxI * (R * (rdr Rb bs q low * F))))
  case atStart => exact ⟨p, 0, rfl, by omega, hp, by omega, HRES.out, H1.out⟩
  case round =>
    clear H1 HRES
    obtain ⟨q, n, rfl, hg, hq, hn, hres, hst⟩ := hrel
    obtain ⟨g, rfl⟩ : ∃ g, gk = g + 1 := ⟨gk - 1, by omega⟩
    rw [readFx] at hres
    have C1 := HBO.out _ _ hst
    have C2 := bkI_read (hst.perm (show _ = bkI B (faxW black) faxI * (rdr Rb bs q low * (R * F)) by ac_rfl)) (by rw [length_faxI, len_fax]) hq
    have hlen := rdW_len (faxW black) ((bitsL low bs).drop q) []
    have hdl : ((bitsL low bs).drop q).length = 8 * bs.length - q := by rw [List.length_drop, length_bitsL]
    generalize rdW (faxW black) [] ((bitsL low bs).drop q) = r at *
    obtain ⟨k, r⟩ := r
    have hk1 : q + k ≤ 8 * bs.length := by have := hlen.2.1; simp only [List.length_nil, hdl] at this; omega
    have HC1 := Lib.hid C1; have HC2 := Lib.hid C2
    have HRS := Lib.hid hres; have HG := Lib.hid hg
    clear C1 C2 hst hdl hres hg
    go_wp2_with fail
    refine HC1.out.mono ?_
    rintro e w1 ⟨rfl, rfl⟩
    go_wp2_with fail
    refine HC2.out.mono ?_
    rintro e w2 ⟨z, x, p1, rfl, hrd, h3⟩
    have h3 := h3.perm (show _ = bkI B (faxW black) faxI * (R * (rdr Rb bs p1 low * F)) by ac_rfl)
    have H3 := Lib.hid h3; clear h3 HC1 HC2
    cases r with
    | inr er =>
      have her := hlen.2.2.2.2 er rfl
      obtain ⟨hp1, hx, hz⟩ := hrd
      subst hx hz
      simp only at HRS hp1
      have hx2 : ¬ (x : Int) = 0 := by omega
      have HP := Lib.hid hp1; have HK := Lib.hid hk1; clear hlen hp1 hk1
      go_wp2_with fail
      go_ret2
      exact ⟨0, x, p1, rfl, by rw [← HRS.out]; exact ⟨HP.out, rfl, rfl⟩, by rw [HP.out]; exact HK.out, HSH.out _ _ H3.out⟩
    | inl i =>
      obtain ⟨hi0, hi⟩ := hlen.2.2.2.1 i rfl
      rw [len_fax] at hi
      obtain ⟨hp1, hx, hz⟩ := hrd
      rw [faxI_get hi] at hz
      subst hx hz
      simp only [List.length_nil] at HRS hp1 hi0
      rw [← hp1] at HRS
      have hp1l : p1 ≤ 8 * bs.length := by rw [hp1]; exact hk1
      have hfl := faxL_le hi
      have h64 := @faxL_64 i
      obtain ⟨n1, hn1⟩ : ∃ n1, n1 = n + faxL i := ⟨_, rfl⟩
      rw [← hn1] at HRS
      have hn1i : (n : Int) + (faxL i : Nat) = (n1 : Int) := by omega
      have hn1q : n1 ≤ 2560 * p1 := by omega
      have hq1 : q + 1 ≤ p1 := by omega
      generalize faxL i = fl at *
      clear hlen hp1 hk1 hi0 hn1
      by_cases hm : most < (n1 : Int)
      · have hres := HRS.out
        rw [if_pos hm] at hres
        have HRX := Lib.hid hres; clear hres HRS h64
        have HPL := Lib.hid hp1l; clear hp1l hn1q hq1
        go_wp2_with fail
        go_ret2
        exact ⟨0, 5, p1, rfl, by rw [← HRX.out]; exact ⟨rfl, rfl, rfl⟩, HPL.out, HSH.out _ _ H3.out⟩
      · have hres := HRS.out
        rw [if_neg hm] at hres
        clear HRS
        by_cases hlt : i < 64
        · rw [if_pos hlt] at hres
          have hfl2 : (fl : Int) < 64 := by have := h64.2 hlt; omega
          have HRX := Lib.hid hres; clear hres h64
          have HPL := Lib.hid hp1l; clear hp1l hn1q hq1
          go_wp2_with fail
          go_ret2
          exact ⟨n1, 0, p1, rfl, by rw [← HRX.out]; exact ⟨rfl, rfl, rfl⟩, HPL.out, HSH.out _ _ H3.out⟩
        · rw [if_neg hlt] at hres
          have hfl2 : ¬ (fl : Int) < 64 := by intro hc; exact hlt (h64.1 (by omega))
          have HRX := Lib.hid hres; clear hres h64
          have HPL := Lib.hid hp1l; have HNQ := Lib.hid hn1q; have HQ1 := Lib.hid hq1; clear hp1l hn1q hq1
          go_wp2_with fail
          go_roundg g
          case measure => omega
          case rel => exact ⟨p1, n1, rfl, by have := HG.out; have := HQ1.out; omega, HPL.out, HNQ.out, HRX.out, H3.out⟩

set_option maxHeartbeats 40000000 in
theorem creadMode_any {w0 w : World} {C Rb : Nat} {F : SProp} {bs : List UInt8} {p : Nat} {low : Bool} (h : St w0 w (codes C * (rdr Rb bs p low * F))) (hl : bs.length ≤ 100000000) (hp : p ≤ 8 * bs.length) :
    Calls Tryd.prog 66 #[.pointer (some ⟨C, 0, none⟩), .pointer (some ⟨Rb, 0, none⟩)] w fun e w' => ∃ (z : Int) (x p' : Nat),
      e = .returned (.tuple #[.int .i64 z, .int .i64 (x : Nat)]) ∧ MdR (readMd (bitsL low bs) p) z x p' ∧ p' ≤ 8 * bs.length ∧ St w0 w' (codes C * (rdr Rb bs p' low * F)) := by
  obtain ⟨B0, B1, Bm, h1⟩ := codes_open h
  have c2 := h1.cell 2 rfl
  have C2 := bkM_read (h1.perm (show _ = bkM Bm modW modI * (rdr Rb bs p low * (blk C (.cells #[.pointer (some ⟨B0, 0, none⟩), .pointer (some ⟨B1, 0, none⟩), .pointer (some ⟨Bm, 0, none⟩)] 91) * (bkI B0 (faxW false) faxI * (bkI B1 (faxW true) faxI * F)))) by ac_rfl)) (by rw [length_modI, len_mod]) hp
  have HBACK := Lib.hid (fun w' p' (h' : St w0 w' (bkM Bm modW modI * (rdr Rb bs p' low * (blk C (.cells #[.pointer (some ⟨B0, 0, none⟩), .pointer (some ⟨B1, 0, none⟩), .pointer (some ⟨Bm, 0, none⟩)] 91) * (bkI B0 (faxW false) faxI * (bkI B1 (faxW true) faxI * F)))))) =>
    (codes_shut (h'.perm (by ac_rfl)) : St w0 w' (codes C * (rdr Rb bs p' low * F))))
  have HR := Lib.hid (show readMd (bitsL low bs) p = match rdW modW [] ((bitsL low bs).drop p) with
    | (k, .inr e) => (p + k, .inr e)
    | (k, .inl i) => if i = 9 then (p + k, .inr 9) else (p + k, .inl ((i : Int) - 3)) from rfl)
  have hlen := rdW_len modW ((bitsL low bs).drop p) []
  have hdl : ((bitsL low bs).drop p).length = 8 * bs.length - p := by rw [List.length_drop, length_bitsL]
  generalize rdW modW [] ((bitsL low bs).drop p) = r at *
  obtain ⟨k, r⟩ := r
  have hk1 : p + k ≤ 8 * bs.length := by have := hlen.2.1; simp only [List.length_nil, hdl] at this; omega
  have HC2 := Lib.hid C2
  clear C2 hdl h h1
  go_enter Tryd.func66, Tryd.ntmps66
  go_wp2_with fail
  refine HC2.out.mono ?_
  rintro e w2 ⟨z, x, p1, rfl, hrd, h3⟩
  have H3 := Lib.hid (HBACK.out _ _ h3); clear h3 HC2 HBACK c2
  cases r with
  | inr er =>
    have her := hlen.2.2.2.2 er rfl
    obtain ⟨hp1, hx, hz⟩ := hrd
    subst hx hz
    simp only at HR hp1
    have hx2 : ¬ (x : Int) = 0 := by omega
    have hx3 : ((x : Int) == 0) = false := by rw [beq_eq_false_iff_ne]; exact hx2
    have HP := Lib.hid hp1; have HK := Lib.hid hk1; clear hlen hp1 hk1
    go_wp2_with fail
    go_ret2
    exact ⟨0, x, p1, rfl, by rw [HR.out]; exact ⟨HP.out, rfl, rfl⟩, by rw [HP.out]; exact HK.out, H3.out⟩
  | inl i =>
    obtain ⟨hi0, hi⟩ := hlen.2.2.2.1 i rfl
    rw [len_mod] at hi
    obtain ⟨hp1, hx, hz⟩ := hrd
    rw [modI_get hi] at hz
    subst hx hz
    simp only [List.length_nil] at HR hp1
    have HP := Lib.hid hp1; have HK := Lib.hid hk1; clear hlen hp1 hk1 hi0
    by_cases h9 : i = 9
    · subst h9
      rw [if_pos rfl] at HR
      go_wp2_with fail
      go_ret2
      exact ⟨0, 9, p1, rfl, by rw [HR.out]; exact ⟨HP.out, rfl, rfl⟩, by rw [HP.out]; exact HK.out, H3.out⟩
    · rw [if_neg h9] at HR
      have hn9 : ¬ (i : Int) - 3 = 6 := by omega
      have hb9 : ((i : Int) - 3 == 6) = false := by rw [beq_eq_false_iff_ne]; exact hn9
      obtain ⟨y, hy⟩ : ∃ y : Int, y = (i : Int) - 3 := ⟨_, rfl⟩
      rw [← hy] at HR hn9 hb9 ⊢
      have HY := Lib.hid hy; clear hy
      go_wp2_with fail
      go_ret2
      exact ⟨y, 0, p1, rfl, by rw [HR.out]; exact ⟨HP.out, rfl, rfl⟩, by rw [HP.out]; exact HK.out, H3.out⟩

set_option maxHeartbeats 40000000 in
theorem cwrite_any {w0 w : World} {C Wb : Nat} {F : SProp} {l : List Nat} {low : Bool} (h : St w0 w (codes C * (wrt Wb l low * F))) (n : Nat) (hn : n ≤ 32768) (black : Bool) (hm : l.length ≤ 1000000000) {j : Int} (hj : j = n) :
    Calls Tryd.prog 57 #[.pointer (some ⟨C, 0, none⟩), .pointer (some ⟨Wb, 0, none⟩), .int .i64 j, .bool black] w fun e w' => e = .returned (.int .i64 0) ∧ St w0 w' (codes C * (wrt Wb (l ++ tellB black n) low * F)) := by
  subst hj
  obtain ⟨B, R, h1, HS, HBK⟩ := codes_book h black
  have HSH := Lib.hid HS
  have HC1 := Lib.hid (HBK _ _ h1); clear HS HBK h
  have H1 := Lib.hid h1; clear h1
  have HTL := Lib.hid (show l ++ tellB black n = l ++ kbits (faxW black) (placesL n) from rfl)
  generalize l ++ tellB black n = RES at *
  go_enter Tryd.func57, Tryd.ntmps57
  go_wp2_with fail
  refine HC1.out.mono ?_
  rintro e w1 ⟨rfl, rfl⟩
  clear HC1
  go_wp2_with fail
  go_loopw [2] (fun vn wr => ∃ (m : Nat) (l' : List Nat), vn = .int .i64 m ∧ m ≤ 32768 ∧ l'.length + 13 * m ≤ 1000500000 ∧ l' ++ kbits (faxW black) (placesL m) = RES ∧ St w0 wr (bkI B (faxW black) faxI * (R * (wrt Wb l' low * F)))) (fun vn _ => (intOf vn).toNat)
  case atStart => exact ⟨n, l, rfl, hn, by omega, HTL.out.symm, H1.out⟩
  case round =>
    clear H1 HTL
    obtain ⟨m, l', rfl, hm9, hl', hres, hst⟩ := hrel
    have hst2 := hst.perm (show _ = bkI B (faxW black) faxI * (wrt Wb l' low * (R * F)) by ac_rfl)
    by_cases h64 : 64 ≤ m
    · have h64' : (64 : Int) ≤ m := by omega
      by_cases hg : 2560 ≤ m
      · have hg' : (2560 : Int) ≤ m := by omega
        rw [placesL_great hg, kbits_cons] at hres
        obtain ⟨v, hv, hvn⟩ := ne_fax black (i := 103) (by omega)
        have hvl := le_fax black v (List.mem_of_getElem? hv)
        have hvb := bit_fax black v (List.mem_of_getElem? hv)
        have hvg : (faxW black).getD 103 [] = v := by rw [List.getD_eq_getElem?_getD, hv]; rfl
        rw [hvg, ← List.append_assoc] at hres
        have HC := Lib.hid (bkI_write hst2 (j := (103 : Int)) 103 rfl hv hvn hvb (by omega) (by omega))
        have HR := Lib.hid hres; clear hres hst hst2 hv
        have hmin : min (m : Int) 2560 = 2560 := by omega
        have hs : (m : Int) - 2560 = ((m - 2560 : Nat) : Int) := by omega
        go_wp2_with fail
        refine HC.out.mono ?_
        rintro e w2 ⟨rfl, h3⟩
        have H3 := Lib.hid (h3.perm (show _ = bkI B (faxW black) faxI * (R * (wrt Wb (l' ++ v) low * F)) by ac_rfl)); clear h3
        go_wp2_with fail
        exact ⟨⟨m - 2560, l' ++ v, by first | rfl | go_num, by omega, by rw [List.length_append]; omega, HR.out, H3.out⟩, by simp [intOf]; omega⟩
      · have hg' : ¬ (2560 : Int) ≤ m := by omega
        rw [placesL_more (by omega) h64, kbits_cons] at hres
        obtain ⟨v, hv, hvn⟩ := ne_fax black (i := 63 + m / 64) (by omega)
        have hvl := le_fax black v (List.mem_of_getElem? hv)
        have hvb := bit_fax black v (List.mem_of_getElem? hv)
        have hvg : (faxW black).getD (63 + m / 64) [] = v := by rw [List.getD_eq_getElem?_getD, hv]; rfl
        rw [hvg, ← List.append_assoc] at hres
        obtain ⟨i, hi⟩ : ∃ i, i = 63 + m / 64 := ⟨_, rfl⟩
        rw [← hi] at hv
        have HC := Lib.hid (bkI_write hst2 (j := (i : Int)) i rfl hv hvn hvb (by omega) (by omega))
        have HR := Lib.hid hres; clear hres hst hst2 hv
        have hmin : min (m : Int) 2560 = (m : Int) := by omega
        obtain ⟨kq, hkq⟩ : ∃ kq, kq = m / 64 := ⟨_, rfl⟩
        obtain ⟨r0, hr0⟩ : ∃ r0, r0 = 64 * kq := ⟨_, rfl⟩
        obtain ⟨m2, hm2⟩ : ∃ m2, m2 = m % 64 := ⟨_, rfl⟩
        rw [← hm2] at HR
        have hq : (m : Int) / 64 = (kq : Int) := by omega
        have hii : (63 : Int) + (kq : Int) = (i : Int) := by omega
        have hs0 : (64 : Int) * (kq : Int) = (r0 : Int) := by omega
        have hs : (m : Int) - (r0 : Int) = (m2 : Int) := by omega
        have hb1 : kq ≤ 39 := by omega
        have hb2 : r0 ≤ 2560 := by omega
        have hb3 : m2 < 64 := by omega
        have hb4 : m2 ≤ m - 64 := by omega
        have hb5 : i < 104 := by omega
        clear hi hkq hr0 hm2 hvg
        go_wp2_with fail
        refine HC.out.mono ?_
        rintro e w2 ⟨rfl, h3⟩
        have H3 := Lib.hid (h3.perm (show _ = bkI B (faxW black) faxI * (R * (wrt Wb (l' ++ v) low * F)) by ac_rfl)); clear h3
        go_wp2_with fail
        exact ⟨⟨m2, l' ++ v, by first | rfl | go_num, by omega, by rw [List.length_append]; omega, HR.out, H3.out⟩, by simp [intOf]; omega⟩
    · have h64' : ¬ (64 : Int) ≤ m := by omega
      rw [placesL_less (by omega)] at hres
      obtain ⟨v, hv, hvn⟩ := ne_fax black (i := m) (by omega)
      have hvl := le_fax black v (List.mem_of_getElem? hv)
      have hvb := bit_fax black v (List.mem_of_getElem? hv)
      have hvg : kbits (faxW black) [m] = v := by simp [kbits, hv]
      rw [hvg] at hres
      have HC := Lib.hid (bkI_write hst2 (j := (m : Int)) m rfl hv hvn hvb (by omega) (by omega))
      have HR := Lib.hid hres; clear hres hst hst2 hv hvg
      go_wp2_with fail
      refine HC.out.mono ?_
      rintro e w2 ⟨rfl, h3⟩
      have H3 := Lib.hid (h3.perm (show _ = bkI B (faxW black) faxI * (R * (wrt Wb (l' ++ v) low * F)) by ac_rfl)); clear h3
      go_wp2_with fail
      go_ret
      exact ⟨rfl, by rw [← HR.out]; exact HSH.out _ _ H3.out⟩
/-- A length that can't be. -/
theorem cwrite_bad {w0 w : World} {F : SProp} {C : Nat} (h : St w0 w F) (p : Value) (n : Int) (hn : n < 0 ∨ 32768 < n) (b : Bool) :
    Calls Tryd.prog 57 #[.pointer (some ⟨C, 0, none⟩), p, .int .i64 n, .bool b] w fun e w' => e = .returned (.int .i64 1) ∧ St w0 w' F := by
  have H := Lib.hid h; clear h
  by_cases h0 : n < 0
  · have hd : decide (n < 0) = true := by simpa using h0
    go_enter Tryd.func57, Tryd.ntmps57
    go_wp2_with fail
    go_ret
    exact ⟨rfl, H.out⟩
  · have h1 : 32768 < n := by omega
    go_enter Tryd.func57, Tryd.ntmps57
    go_wp2_with fail
    go_ret
    exact ⟨rfl, H.out⟩
theorem cmode_bad {w0 w : World} {F : SProp} {C : Nat} (h : St w0 w F) (p : Value) (n : Int) (hn : n < -3 ∨ 5 < n) :
    Calls Tryd.prog 56 #[.pointer (some ⟨C, 0, none⟩), p, .int .i64 n] w fun e w' => e = .returned (.int .i64 1) ∧ St w0 w' F := by
  have H := Lib.hid h; clear h
  by_cases h0 : n < -3
  · have hd : decide (n < -3) = true := by simpa using h0
    go_enter Tryd.func56, Tryd.ntmps56
    go_wp2_with fail
    go_ret
    exact ⟨rfl, H.out⟩
  · have h1 : 5 < n := by omega
    go_enter Tryd.func56, Tryd.ntmps56
    go_wp2_with fail
    go_ret
    exact ⟨rfl, H.out⟩
theorem ne_mod {i : Nat} (h : i < 10) : ∃ w, modW[i]? = some w ∧ w ≠ [] := by
  have hl : i < modW.length := by rw [len_mod]; exact h
  refine ⟨_, List.getElem?_eq_getElem hl, fun h0 => ?_⟩
  have := (le_mod _ (List.getElem_mem hl)).1
  rw [h0] at this
  exact absurd this (by decide)
set_option maxHeartbeats 40000000 in
theorem cwriteMode_any {w0 w : World} {C Wb : Nat} {F : SProp} {l : List Nat} {low : Bool} (h : St w0 w (codes C * (wrt Wb l low * F))) (i : Nat) (hi : i ≤ 8) (hm : l.length ≤ 1000000000) {j : Int} (hj : j = (i : Int) - 3) :
    Calls Tryd.prog 56 #[.pointer (some ⟨C, 0, none⟩), .pointer (some ⟨Wb, 0, none⟩), .int .i64 j] w fun e w' => e = .returned (.int .i64 0) ∧ St w0 w' (codes C * (wrt Wb (l ++ modW.getD i []) low * F)) := by
  obtain ⟨B0, B1, Bm, h1⟩ := codes_open h
  have c2 := h1.cell 2 rfl
  obtain ⟨v, hv, hvn⟩ := ne_mod (i := i) (by omega)
  have hvl := le_mod v (List.mem_of_getElem? hv)
  have hvb := bit_mod v (List.mem_of_getElem? hv)
  have hvg : modW.getD i [] = v := by rw [List.getD_eq_getElem?_getD, hv]; rfl
  rw [hvg]
  have HC := Lib.hid (bkM_write (h1.perm (show _ = bkM Bm modW modI * (wrt Wb l low * (blk C (.cells #[.pointer (some ⟨B0, 0, none⟩), .pointer (some ⟨B1, 0, none⟩), .pointer (some ⟨Bm, 0, none⟩)] 91) * (bkI B0 (faxW false) faxI * (bkI B1 (faxW true) faxI * F)))) by ac_rfl)) (j := (i : Int)) i rfl hv hvn hvb (by omega) (by omega))
  clear h h1 hv hvg
  have h1 : ¬ j < -3 := by omega
  have h2 : ¬ 5 < j := by omega
  have h3 : j - -3 = (i : Int) := by omega
  have h4 : j + 3 = (i : Int) := by omega
  have hdj : decide (j < -3) = false := by simpa using h1
  clear hj
  go_enter Tryd.func56, Tryd.ntmps56
  go_wp2_with fail
  refine HC.out.mono ?_
  rintro e w2 ⟨rfl, h5⟩
  have H5 := Lib.hid h5; clear h5
  go_wp2_with fail
  go_ret
  exact ⟨rfl, codes_shut (H5.out.perm (by ac_rfl))⟩
#print axioms cwrite_any
#print axioms cread_any
end Go.Proofs.YtdjoigobmmaaiaaDoor
