/-
  Layer 13 (faxcode): the document's telling and reading of lengths and modes (package mezzotintref13).
-/
import Derived.Test.YtdjoigobmmaaiaaDoorFaxD
import Derived.Test.YtdjoigobmmaaiaaDoorFaxR
import Derived.Test.YtdjoigobmmaaiaaDoorRefH
namespace Go.Proofs.YtdjoigobmmaaiaaDoor
open Go.RowKit Go.Mz
set_option linter.unusedVariables false
set_option linter.unusedSimpArgs false
set_option maxRecDepth 100000

theorem reads_word {w : World} {a : Option Addr} {cap n : Nat} {W : List (List Nat)} (h : Reads w 1 (.slice a n cap) n (W.map txv)) {i : Nat} (hi : i < n) (hn : n = W.length) : ∃ b off, a = some ⟨b, off, none⟩ ∧ w.cell? ⟨b, off + i, none⟩ = some (.string ⟨(tx (W.getD i [])).toArray⟩) := by
  obtain ⟨b, off, e, hc⟩ := h.at_ hi
  refine ⟨b, off, e, ?_⟩
  rw [hc, List.getElem?_map, List.getD_eq_getElem?_getD, List.getElem?_eq_getElem (by omega)]; rfl
theorem getD_le (black : Bool) (i : Nat) : ((faxW black).getD i []).length ≤ 13 := by
  rw [List.getD_eq_getElem?_getD]
  cases e : (faxW black)[i]? with
  | none => simp
  | some w => exact (le_fax black w (List.mem_of_getElem? e)).2
theorem bit_kbitsF (black : Bool) (K : List Nat) : Bit (kbits (faxW black) K) := bit_kbits (bit_fax black) K
theorem bit_tellB (black : Bool) (n : Nat) : Bit (tellB black n) := bit_kbitsF black _

set_option maxHeartbeats 40000000 in
theorem rtell_any {w0 w : World} {F : SProp} (h : St w0 w F) (n : Nat) (hn : n ≤ 32768) (black : Bool) {j : Int} (hj : j = n) :
    Calls Tryd.prog 61 #[.int .i64 j, .bool black] w fun e w' => e = .returned (.string ⟨(tx (tellB black n)).toArray⟩) ∧ St w0 w' F := by
  subst hj
  have HW := Lib.hid (rwords13_any h black); clear h
  have HLE := Lib.hid (getD_le black)
  have HTL := Lib.hid (show tellB black n = [] ++ kbits (faxW black) (placesL n) from rfl)
  generalize hRES : tellB black n = RES at *
  have hfl := len_fax black
  generalize faxW black = W at *
  clear hRES
  go_enter Tryd.func61, Tryd.ntmps61
  go_wp2_with fail
  refine HW.out.mono ?_
  rintro e w2 ⟨v2, rfl, h2⟩
  obtain ⟨a2, c2, rfl⟩ := h2.reads.sub
  obtain ⟨g2, rfl⟩ := own_at h2 (by omega)
  have hcell : ∀ i, i < 104 → w2.cell? ⟨g2, i, none⟩ = some (.string ⟨(tx (W.getD i [])).toArray⟩) := fun i hi => h2.own_cell (by
    rw [List.getElem?_map, List.getD_eq_getElem?_getD, List.getElem?_eq_getElem (by omega)]; rfl)
  have HCELL := Lib.hid hcell; clear hcell
  have H2 := Lib.hid h2.right; clear h2 HW
  go_wp2_with fail
  go_loop [0, 6] (fun vn vs => ∃ (m : Nat) (l : List Nat), vn = .int .i64 m ∧ m ≤ 32768 ∧ vs = .string ⟨(tx l).toArray⟩ ∧ l.length + 13 * (m / 2560) ≤ 13 * (n / 2560) ∧ l ++ kbits W (placesL m) = RES) (fun vn _ => (intOf vn).toNat)
  case atStart => exact ⟨n, [], rfl, hn, rfl, by simp, HTL.out.symm⟩
  case round =>
    clear HTL
    obtain ⟨m, l, rfl, hm9, rfl, hl, hres⟩ := hrel
    have hl9 : l.length ≤ 500 := by omega
    have hlx : (tx l).length = l.length := by simp
    by_cases hg : 2560 ≤ m
    · have hg' : (2560 : Int) ≤ m := by omega
      rw [placesL_great hg, kbits_cons, ← List.append_assoc] at hres
      have c103 := HCELL.out 103 (by omega)
      have hle := HLE.out 103
      generalize W.getD 103 [] = v at *
      have hlv : (tx v).length = v.length := by simp
      have hs : (m : Int) - 2560 = ((m - 2560 : Nat) : Int) := by omega
      have HR := Lib.hid hres; clear hres
      go_wp2_with fail
      refine ⟨⟨m - 2560, l ++ v, by first | rfl | go_num, by omega, ?_, by rw [List.length_append]; omega, HR.out⟩, by simp [intOf]; omega⟩
      rw [tx_append]
      exact congrArg Value.string (ByteArray.mk_append_mk _ _)
    · have hg' : ¬ (2560 : Int) ≤ m := by omega
      by_cases h64 : 64 ≤ m
      · have h64' : (64 : Int) ≤ m := by omega
        rw [placesL_more (by omega) h64, kbits_cons, placesL_less (by omega), kbits_cons, ← List.append_assoc, ← List.append_assoc] at hres
        obtain ⟨i, hi⟩ : ∃ i, i = 63 + m / 64 := ⟨_, rfl⟩
        obtain ⟨kq, hkq⟩ : ∃ kq, kq = m / 64 := ⟨_, rfl⟩
        obtain ⟨m2, hm2⟩ : ∃ m2, m2 = m % 64 := ⟨_, rfl⟩
        rw [← hi, ← hm2] at hres
        have hq : (m : Int) / 64 = (kq : Int) := by omega
        have hii : (63 : Int) + (kq : Int) = (i : Int) := by omega
        have hr : (m : Int) % 64 = (m2 : Int) := by omega
        have hb1 : kq ≤ 39 := by omega
        have hb3 : m2 < 64 := by omega
        have hb5 : i < 104 := by omega
        have ci := HCELL.out i hb5
        have cm := HCELL.out m2 (by omega)
        have hle1 := HLE.out i
        have hle2 := HLE.out m2
        generalize W.getD i [] = v at *
        generalize W.getD m2 [] = u at *
        have hlv : (tx v).length = v.length := by simp
        have hlu : (tx u).length = u.length := by simp
        have hlvu : (tx (l ++ v)).length = l.length + v.length := by simp
        have hb6 : (i : Int) < 104 := by omega
        have hb7 : (m2 : Int) < 104 := by omega
        have hbi : 0 ≤ (i : Int) := by omega
        have HR := Lib.hid (show RES = l ++ v ++ u by rw [← hres]; simp [kbits]); clear hres hi hkq hm2
        go_wp2_with fail
        go_ret
        refine ⟨?_, H2.out⟩
        rw [HR.out, tx_append, tx_append]
        exact congrArg (fun x => Ending.returned (Value.string x)) (by simp only [ByteArray.mk_append_mk])
      · have h64' : ¬ (64 : Int) ≤ m := by omega
        rw [placesL_less (by omega), kbits_cons] at hres
        have cm := HCELL.out m (by omega)
        have hle2 := HLE.out m
        generalize W.getD m [] = u at *
        have hlu : (tx u).length = u.length := by simp
        have hb7 : (m : Int) < 104 := by omega
        have HR := Lib.hid (show RES = l ++ u by rw [← hres]; simp [kbits]); clear hres
        go_wp2_with fail
        go_ret
        refine ⟨?_, H2.out⟩
        rw [HR.out, tx_append]
        exact congrArg (fun x => Ending.returned (Value.string x)) (by simp only [ByteArray.mk_append_mk])

set_option maxHeartbeats 40000000 in
theorem rread13_any {w : World} (black : Bool) {t : List Nat} (ht : Bit t) (hl : t.length ≤ 1000000000) {p : Nat} (hp : p ≤ t.length) (most : Int) {vw : Value} (hr : Reads w 1 vw 104 ((faxW black).map txv)) {sb : ByteArray} (hsb : sb = ⟨(tx t).toArray⟩) :
    Calls Tryd.prog 73 #[.string sb, .int .i64 p, .int .i64 most, vw] w fun e w' => ∃ (z : Int) (x p' : Nat),
      e = .returned (.tuple #[.int .i64 z, .int .i64 (p' : Nat), .int .i64 (x : Nat)]) ∧ FxR (readL black t most p) z x p' ∧ p' ≤ t.length ∧ w' = w := by
  have HRD := Lib.hid (fun q (hq : q ≤ t.length) => (by
    have C := hread_any (W := faxW black) (t := t) (vw := vw) (by rw [len_fax]; exact hr) (bit_fax black) ht q hq hl (by rw [len_fax]; omega)
    rw [← hsb] at C; exact C : Calls Tryd.prog 92 #[vw, .string sb, .int .i64 q] w fun e w' => e = .returned (rdV (rdW (faxW black) [] (t.drop q)) q) ∧ w' = w))
  obtain ⟨aw, cw, rfl⟩ := hr.sub
  generalize hRES : readL black t most p = RES at *
  have HRES := Lib.hid hRES; clear hRES
  rw [readL] at HRES
  clear hr hsb
  go_enter Tryd.func73, Tryd.ntmps73
  go_wp2_with fail
  go_loopg [1, 11] (t.length + 1 - p) (fun g vq vn wr => ∃ (q n : Nat), vq = .int .i64 q ∧ vn = .int .i64 n ∧ t.length + 1 ≤ g + q ∧ q ≤ t.length ∧ n ≤ 2560 * q ∧ readFx (faxW black) t most g q n = RES ∧ wr = w)
  case atStart => exact ⟨p, 0, rfl, rfl, by omega, hp, by omega, HRES.out, rfl⟩
  case round =>
    clear HRES
    obtain ⟨q, n, rfl, rfl, hg, hq, hn, hres, rfl⟩ := hrel
    obtain ⟨g, rfl⟩ : ∃ g, gk = g + 1 := ⟨gk - 1, by omega⟩
    rw [readFx] at hres
    have C2 := HRD.out q hq
    have hlen := rdW_len (faxW black) (t.drop q) []
    have hdl : (t.drop q).length = t.length - q := by rw [List.length_drop]
    generalize rdW (faxW black) [] (t.drop q) = r at *
    obtain ⟨k, r⟩ := r
    have hk1 : q + k ≤ t.length := by have := hlen.2.1; simp only [List.length_nil, hdl] at this; omega
    have HG := Lib.hid hg; clear hg hdl
    cases r with
    | inr er =>
      have her := hlen.2.2.2.2 er rfl
      have hx2 : ¬ (er : Int) = 0 := by omega
      obtain ⟨p1, hp1⟩ : ∃ p1, p1 = q + k := ⟨_, rfl⟩
      simp only [rdV] at C2
      simp only at hres
      rw [← hp1] at C2 hres hk1
      have HC2 := Lib.hid C2; have HRS := Lib.hid hres; have HK := Lib.hid hk1; clear C2 hres hlen hk1 hp1
      go_wp2_with fail
      refine HC2.out.mono ?_
      rintro e w2 ⟨rfl, rfl⟩
      go_wp2_with fail
      go_ret3
      exact ⟨0, er, p1, rfl, by rw [← HRS.out]; exact ⟨rfl, rfl, rfl⟩, HK.out, rfl⟩
    | inl i =>
      obtain ⟨hi0, hi⟩ := hlen.2.2.2.1 i rfl
      rw [len_fax] at hi
      obtain ⟨p1, hp1⟩ : ∃ p1, p1 = q + k := ⟨_, rfl⟩
      simp only [rdV] at C2
      simp only at hres
      simp only [List.length_nil] at hi0
      have hfl := faxL_le hi
      have hq1 : q + 1 ≤ p1 := by omega
      rw [← hp1] at C2 hres hk1
      have HC2 := Lib.hid C2; clear C2 hlen hp1 hi0
      have HLN := Lib.hid (fun w => rlength13_any i (by omega) w (j := (i : Int)) rfl)
      obtain ⟨n1, hn1⟩ : ∃ n1, n1 = n + faxL i := ⟨_, rfl⟩
      rw [← hn1] at hres
      have hn1i : (n : Int) + (faxL i : Nat) = (n1 : Int) := by omega
      have hn1q : n1 ≤ 2560 * p1 := by omega
      generalize faxL i = fl at *
      have HRS := Lib.hid hres; have HK := Lib.hid hk1; clear hres hn1
      have hn19 : n1 ≤ 3000000000000 := by omega
      have HNQ := Lib.hid hn1q; have HQ1 := Lib.hid hq1; clear hn1q hq1 hk1
      go_wp2_with fail
      refine HC2.out.mono ?_
      rintro e w2 ⟨rfl, rfl⟩
      go_wp2_with fail
      refine (HLN.out _).mono ?_
      rintro e w3 ⟨rfl, rfl⟩
      by_cases hm : most < (n1 : Int)
      · have hres := HRS.out
        rw [if_pos hm] at hres
        have HRX := Lib.hid hres; clear hres HRS
        go_wp2_with fail
        go_ret3
        exact ⟨0, 5, p1, rfl, by rw [← HRX.out]; exact ⟨rfl, rfl, rfl⟩, HK.out, rfl⟩
      · have hres := HRS.out
        rw [if_neg hm] at hres
        clear HRS
        by_cases hlt : i < 64
        · rw [if_pos hlt] at hres
          have hlt2 : (i : Int) < 64 := by omega
          have HRX := Lib.hid hres; clear hres
          go_wp2_with fail
          go_ret3
          exact ⟨n1, 0, p1, rfl, by rw [← HRX.out]; exact ⟨rfl, rfl, rfl⟩, HK.out, rfl⟩
        · rw [if_neg hlt] at hres
          have hlt2 : ¬ (i : Int) < 64 := by omega
          have HRX := Lib.hid hres; clear hres
          go_wp2_with fail
          go_roundg g
          case measure => omega
          case rel => exact ⟨p1, n1, rfl, rfl, by have := HG.out; have := HQ1.out; omega, HK.out, HNQ.out, HRX.out, rfl⟩

set_option maxHeartbeats 40000000 in
theorem rreadMode13_any {w0 w : World} {F : SProp} (h : St w0 w F) {t : List Nat} (ht : Bit t) (hl : t.length ≤ 1000000000) {p : Nat} (hp : p ≤ t.length) {sb : ByteArray} (hsb : sb = ⟨(tx t).toArray⟩) :
    Calls Tryd.prog 71 #[.string sb, .int .i64 p] w fun e w' => ∃ (z : Int) (x p' : Nat),
      e = .returned (.tuple #[.int .i64 z, .int .i64 (p' : Nat), .int .i64 (x : Nat)]) ∧ MdR (readMd t p) z x p' ∧ p' ≤ t.length ∧ St w0 w' F := by
  have HM := Lib.hid (rmodes13_any h); clear h
  have HRD := Lib.hid (fun (w : World) (vw : Value) (hr : Reads w 1 vw 10 (modW.map txv)) => (by
    have C := hread_any (W := modW) (t := t) (vw := vw) (by rw [len_mod]; exact hr) bit_mod ht p hp hl (by rw [len_mod]; omega)
    rw [← hsb] at C; exact C : Calls Tryd.prog 92 #[vw, .string sb, .int .i64 p] w fun e w' => e = .returned (rdV (rdW modW [] (t.drop p)) p) ∧ w' = w))
  clear hsb
  have HR := Lib.hid (show readMd t p = match rdW modW [] (t.drop p) with
    | (k, .inr e) => (p + k, .inr e)
    | (k, .inl i) => if i = 9 then (p + k, .inr 9) else (p + k, .inl ((i : Int) - 3)) from rfl)
  have hlen := rdW_len modW (t.drop p) []
  have hdl : (t.drop p).length = t.length - p := by rw [List.length_drop]
  generalize rdW modW [] (t.drop p) = r at *
  obtain ⟨k, r⟩ := r
  have hk1 : p + k ≤ t.length := by have := hlen.2.1; simp only [List.length_nil, hdl] at this; omega
  obtain ⟨p1, hp1⟩ : ∃ p1, p1 = p + k := ⟨_, rfl⟩
  go_enter Tryd.func71, Tryd.ntmps71
  go_wp2_with fail
  refine HM.out.mono ?_
  rintro e w2 ⟨v2, rfl, h2⟩
  obtain ⟨a2, c2, rfl⟩ := h2.reads.sub
  have C2 := HRD.out w2 _ h2.reads
  have H2 := Lib.hid h2.right; clear h2 HM hdl
  cases r with
  | inr er =>
    have her := hlen.2.2.2.2 er rfl
    have hx2 : ¬ (er : Int) = 0 := by omega
    simp only [rdV] at C2
    simp only at HR
    rw [← hp1] at C2 HR hk1
    have HC2 := Lib.hid C2; have HK := Lib.hid hk1; clear C2 hlen hk1 hp1
    go_wp2_with fail
    refine HC2.out.mono ?_
    rintro e w3 ⟨rfl, rfl⟩
    go_wp2_with fail
    go_ret3
    exact ⟨0, er, p1, rfl, by rw [HR.out]; exact ⟨rfl, rfl, rfl⟩, HK.out, H2.out⟩
  | inl i =>
    obtain ⟨hi0, hi⟩ := hlen.2.2.2.1 i rfl
    rw [len_mod] at hi
    simp only [rdV] at C2
    simp only at HR
    rw [← hp1] at C2 HR hk1
    have HC2 := Lib.hid C2; have HK := Lib.hid hk1; clear C2 hlen hk1 hp1 hi0
    by_cases h9 : i = 9
    · subst h9
      rw [if_pos rfl] at HR
      go_wp2_with fail
      refine HC2.out.mono ?_
      rintro e w3 ⟨rfl, rfl⟩
      go_wp2_with fail
      go_ret3
      exact ⟨0, 9, p1, rfl, by rw [HR.out]; exact ⟨rfl, rfl, rfl⟩, HK.out, H2.out⟩
    · rw [if_neg h9] at HR
      have hn9 : ¬ (i : Int) = 9 := by omega
      have hb9 : ((i : Int) == 9) = false := by rw [beq_eq_false_iff_ne]; exact hn9
      go_wp2_with fail
      refine HC2.out.mono ?_
      rintro e w3 ⟨rfl, rfl⟩
      go_wp2_with fail
      go_ret3
      exact ⟨(i : Int) - 3, 0, p1, rfl, by rw [HR.out]; exact ⟨rfl, rfl, rfl⟩, HK.out, H2.out⟩
#print axioms rtell_any
#print axioms rread13_any
#print axioms rreadMode13_any
end Go.Proofs.YtdjoigobmmaaiaaDoor
