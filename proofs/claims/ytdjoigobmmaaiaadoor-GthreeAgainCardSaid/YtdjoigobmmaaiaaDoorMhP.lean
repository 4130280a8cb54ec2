/-
  Layer 14: rows that are told, read one behind the other; plain Lean.
  Layer 14: the document's pages (package mezzotintref14): Encode, Decode, Same.
-/
import Derived.Test.YtdjoigobmmaaiaaDoorMhR
import Derived.Test.YtdjoigobmmaaiaaDoorMhB
import Derived.Test.YtdjoigobmmaaiaaDoorMhE
import Derived.Test.YtdjoigobmmaaiaaDoorMhA
import Derived.Test.YtdjoigobmmaaiaaDoorWrM
import Derived.Test.YtdjoigobmmaaiaaDoorMhDa
import Derived.Test.YtdjoigobmmaaiaaDoorRef02
import Derived.Deep.RegionWith
namespace Go.Proofs.YtdjoigobmmaaiaaDoor
open Go.RowKit Go.Mz
set_option linter.unusedVariables false
set_option linter.unusedSimpArgs false
set_option maxRecDepth 100000

theorem mod_pos {i : Nat} (h : i < 10) : 1 ≤ (modW.getD i []).length := by
  obtain ⟨v, hv, hn⟩ := ne_mod h
  rw [getD_of hv]
  exact List.length_pos_iff.2 hn
theorem ag_told2 {P T t r : List Nat} (hP : Bit P) (hT : T.length = P.length) (hW : P.length ≤ 32768) : ∀ (f g p : Nat) (at' : Int) (b : Bool), AtP P at' b → (P.length : Int) - at' ≤ f → (agB (chg P) (chg T) P.length f at' b).length < g → p ≤ t.length →
    t.drop p = agB (chg P) (chg T) P.length f at' b ++ r → rdAg t (chg T) P.length g p (P.take (max at' 0).toNat) b at' = (p + (agB (chg P) (chg T) P.length f at' b).length, .inl P) := by
  intro f
  induction f with
  | zero =>
    intro g p at' b hat hf hg hp ht
    obtain ⟨g, rfl⟩ : ∃ k, g = k + 1 := ⟨g - 1, by omega⟩
    rw [rdAg, if_neg (by omega), agB]
    rw [List.take_of_length_le (by omega)]; rfl
  | succ f ih =>
    intro g p at' b hat hf hg hp ht
    obtain ⟨g, rfl⟩ : ∃ k, g = k + 1 := ⟨g - 1, by omega⟩
    rw [rdAg]
    rw [agB] at ht hg ⊢
    by_cases hlt : at' < (P.length : Int)
    · rw [if_pos hlt] at ht hg ⊢
      rw [if_pos hlt]
      simp only at ht hg ⊢
      obtain ⟨n1, n2, n3, n4, n5, n6⟩ := next_row hP hat hlt
      obtain ⟨c1, c2, c3, c4⟩ := nextF_bd (at' := at') (toB := !b) (width := P.length) (chg T) true (chg_inc T) (fun x hx => by rw [← hT]; exact chg_lt T x hx) hlt
      have nb := nextF_bd (at' := at') (toB := !b) (width := P.length) (chg P) true (chg_inc P) (chg_lt P) hlt
      obtain ⟨_, _, a3, a4⟩ := nb
      rw [stepAg]
      generalize nextF true at' (!b) P.length (chg P) = a at *
      generalize nextF true at' (!b) P.length (chg T) = c at *
      have hat0 : -1 ≤ at' := by rcases hat with ⟨rfl, _⟩ | ⟨k, rfl, _⟩ <;> omega
      obtain ⟨q, hq⟩ : ∃ q : Nat, q = (max at' 0).toNat := ⟨_, rfl⟩
      rw [← hq] at n3 ht hg ⊢
      have hqW : q ≤ P.length := by omega
      have hql : (P.take q).length = q := by rw [List.length_take]; omega
      by_cases h1 : c.2 < a.1
      · rw [if_pos h1] at ht hg ⊢
        have hmp := mod_pos (i := 8) (by omega)
        rw [List.length_append] at hg
        rw [List.append_assoc] at ht
        rw [readMd_told (by omega) ht]
        simp only
        rw [if_pos (by decide), hql]
        simp only
        have e1 : P.take q ++ runP (c.2 - q) b = P.take c.2 := take_run (by omega) (by omega) (fun j h1 h2 => n3 j h1 (by omega))
        rw [e1]
        have hat2 : AtP P (c.2 : Int) b := .inr ⟨c.2, rfl, by omega, fun h => n3 c.2 (by omega) h1⟩
        have hd := drop_more ht
        have hp2 : p + (modW.getD 8 []).length ≤ t.length := by
          have := congrArg List.length ht
          rw [List.length_drop, List.length_append] at this
          omega
        have := ih g (p + (modW.getD 8 []).length) (c.2 : Int) b hat2 (by omega) (by omega) hp2 hd
        rw [show (max (c.2 : Int) 0).toNat = c.2 by omega] at this
        rw [this, List.length_append, Nat.add_assoc]
      · rw [if_neg h1] at ht hg ⊢
        by_cases h2 : a.1 ≤ c.1 + 3 ∧ c.1 ≤ a.1 + 3
        · rw [if_pos h2] at ht hg ⊢
          have hmp := mod_pos (i := a.1 + 3 - c.1) (by omega)
          rw [List.length_append] at hg
          rw [List.append_assoc] at ht
          rw [readMd_told (by omega) ht]
          simp only
          rw [if_neg (by omega), if_neg (by omega), if_neg (by omega), hql]
          simp only
          have ex : (c.1 : Int) + (((a.1 + 3 - c.1 : Nat) : Int) - 3) = (a.1 : Int) := by omega
          rw [ex, Int.toNat_natCast]
          have e1 : P.take q ++ runP (a.1 - q) b = P.take a.1 := take_run (by omega) (by omega) n3
          rw [e1]
          have hat2 : AtP P (a.1 : Int) (!b) := .inr ⟨a.1, rfl, by omega, n5⟩
          have hd := drop_more ht
          have hp2 : p + (modW.getD (a.1 + 3 - c.1) []).length ≤ t.length := by
            have := congrArg List.length ht
            rw [List.length_drop, List.length_append] at this
            omega
          have := ih g (p + (modW.getD (a.1 + 3 - c.1) []).length) (a.1 : Int) (!b) hat2 (by omega) (by omega) hp2 hd
          rw [show (max (a.1 : Int) 0).toNat = a.1 by omega] at this
          rw [this, List.length_append, Nat.add_assoc]
        · rw [if_neg h2] at ht hg ⊢
          have hmp := mod_pos (i := 7) (by omega)
          simp only [List.length_append] at hg
          simp only [List.append_assoc] at ht
          rw [readMd_told (by omega) ht]
          simp only
          rw [if_neg (by decide), if_pos (by decide)]
          have hd := drop_more ht
          have hl := congrArg List.length ht
          rw [List.length_drop, List.length_append, List.length_append, List.length_append] at hl
          have hR := readL_told b (t := t) (((P.length - q : Nat)) : Int) (m := a.1 - q) (p := p + (modW.getD 7 []).length) (by omega) (by omega) hd (by omega)
          have hd2 := drop_more hd
          have hR2 := readL_told (!b) (t := t) (((P.length - (q + (a.1 - q)) : Nat)) : Int) (m := a.2 - a.1) (p := p + (modW.getD 7 []).length + (tellB b (a.1 - q)).length) (by omega) (by omega) hd2 (by omega)
          have hd3 := drop_more hd2
          have e1 : P.take q ++ runP (a.1 - q) b = P.take a.1 := take_run (by omega) (by omega) n3
          have e2 : P.take a.1 ++ runP (a.2 - a.1) (!b) = P.take a.2 := take_run (by omega) (by omega) n4
          rw [two, hql, hR]
          simp only
          rw [hR2]
          simp only
          rw [e1, e2]
          have hal : (P.take a.2).length = a.2 := by rw [List.length_take]; omega
          rw [hal]
          have hat2 : AtP P (a.2 : Int) b := .inr ⟨a.2, rfl, by omega, n6⟩
          have := ih g (p + (modW.getD 7 []).length + (tellB b (a.1 - q)).length + (tellB (!b) (a.2 - a.1)).length) (a.2 : Int) b hat2 (by omega) (by omega) (by omega) hd3
          rw [show (max (a.2 : Int) 0).toNat = a.2 by omega] at this
          rw [this]
          simp only [List.length_append, Nat.add_assoc]
    · rw [if_neg hlt] at ht ⊢
      rw [if_neg hlt, List.take_of_length_le (by omega)]; rfl


/-- Rows, each by the one above it. -/
def agAll (width : Nat) : List Nat → List (List Nat) → List Nat
  | _, [] => []
  | top, l :: r => agB l top width (width + 1) (-1) false ++ agAll width l r
theorem agAll_snoc (width : Nat) : ∀ (L : List (List Nat)) (top x : List Nat), agAll width top (L ++ [x]) = agAll width top L ++ agB x (L.getLastD top) width (width + 1) (-1) false := by
  intro L
  induction L with
  | nil => intro top x; simp [agAll]
  | cons l r ih =>
    intro top x
    rw [List.cons_append, agAll, agAll, ih, List.append_assoc, List.getLastD_cons]
theorem readAg_told {P T t r : List Nat} (hP : Bit P) (hT : T.length = P.length) (hW : P.length ≤ 32768) {p : Nat} (hp : p ≤ t.length) (ht : t.drop p = agB (chg P) (chg T) P.length (P.length + 1) (-1) false ++ r) :
    readAg t (chg T) P.length p = (p + (agB (chg P) (chg T) P.length (P.length + 1) (-1) false).length, .inl P) := by
  have hl := congrArg List.length ht
  rw [List.length_drop, List.length_append] at hl
  have := ag_told2 hP hT hW (P.length + 1) (t.length + 1 - p) p (-1) false (.inl ⟨rfl, rfl⟩) (by omega) (by omega) hp ht
  have e0 : P.take (max (-1 : Int) 0).toNat = [] := rfl
  rw [e0] at this
  exact this
theorem tellB_pos (b : Bool) (n : Nat) (hn : n ≤ 32768) : 1 ≤ (tellB b n).length := by
  have h1 := (kbits_ge b (placesL n) (fun i hi => placesL_lt i hi)).1
  have h3 : 1 ≤ (placesL n).length := by
    rw [placesL]
    simp only [List.length_append, List.length_replicate, List.length_singleton]
    omega
  rw [tellB]
  omega
theorem rowB_ge : ∀ (L : List Nat) (b : Bool), (∀ x ∈ L, x ≤ 32768) → L.length ≤ (rowB b L).length := by
  intro L
  induction L with
  | nil => intro b _; simp
  | cons x r ih =>
    intro b h
    have h1 := tellB_pos b x (h x (by simp))
    have h2 := ih (!b) (fun y hy => h y (by simp [hy]))
    rw [rowB, List.length_append, List.length_cons]; omega
theorem readRow_told {P t r : List Nat} (hP : Bit P) (hW : P.length ≤ 32768) {p : Nat} (hp : p ≤ t.length) (ht : t.drop p = rowB false (lensF 0 (chg P) P.length) ++ r) :
    readRow t P.length p = (p + (rowB false (lensF 0 (chg P) P.length)).length, .inl P) := by
  have hlo := lens_of (chg P) P.length 0 (chg_inc P) (fun x hx => ⟨Nat.zero_le _, chg_lt P x hx⟩) (Nat.zero_le _)
  have hge := rowB_ge (lensF 0 (chg P) P.length) false (fun x hx => by have := lensF_le (chg P) P.length 0 (chg_lt P) x hx; omega)
  have hl := congrArg List.length ht
  rw [List.length_drop, List.length_append] at hl
  have := rowRead_told hW (lensF 0 (chg P) P.length) (t.length + 1 - p) p [] false r hlo.2.2 hlo.2.1 (by simpa using hlo.1) (by omega) hp ht
  rw [readRow, this]
  have e := runs_lens P false 0 0 hP (Nat.le_refl _)
  simp only [Nat.sub_zero, Nat.zero_add] at e
  have e2 : chF (cl false) 0 P = chg P := rfl
  rw [e2] at e
  rw [e]
  simp [runP]

theorem bits_bytes {l : List Nat} (hb : Bit l) : bitsL false (bytesB false l) = alignL l := by
  have hle : (bitsL false (bytesB false l)).length = (alignL l).length := by
    rw [length_bitsL, length_bytesB, alignL, List.length_append, List.length_replicate]; omega
  refine List.ext_getElem hle (fun i h1 h2 => ?_)
  have := bitsL_bytesB false hb i
  rw [List.getD_eq_getElem?_getD, List.getElem?_eq_getElem h1] at this
  simp only [Option.getD_some] at this
  rw [this]
  have e : (alignL l).getD i 0 = (alignL l)[i] := by rw [List.getD_eq_getElem?_getD, List.getElem?_eq_getElem h2]; rfl
  rw [← e, alignL, List.getD_eq_getElem?_getD, List.getD_eq_getElem?_getD, List.getElem?_append]
  split
  · rfl
  · rename_i hi
    rw [List.getElem?_eq_none (by omega)]
    cases hx : (List.replicate ((8 - l.length % 8) % 8) 0)[i - l.length]? with
    | none => rfl
    | some v =>
      have := List.mem_of_getElem? hx
      rw [List.eq_of_mem_replicate this]; rfl
theorem alignL_length (l : List Nat) : (alignL l).length = (l.length + 7) / 8 * 8 := by
  rw [alignL, List.length_append, List.length_replicate]; omega
theorem encF_pre (width : Nat) : ∀ (L : List (List Nat)) (acc : List Nat), ∃ X, encF width L acc = acc ++ X := by
  intro L
  induction L with
  | nil => intro acc; exact ⟨[], by simp [encF]⟩
  | cons l r ih =>
    intro acc
    obtain ⟨X, hX⟩ := ih (alignL (acc ++ rowB false (lensF 0 l width)))
    rw [encF, hX]
    exact ⟨rowB false (lensF 0 l width) ++ (List.replicate ((8 - (acc ++ rowB false (lensF 0 l width)).length % 8) % 8) 0 ++ X), by rw [alignL]; simp only [List.append_assoc]⟩
theorem encF_mod (width : Nat) : ∀ (L : List (List Nat)) (acc : List Nat), acc.length % 8 = 0 → (encF width L acc).length % 8 = 0 := by
  intro L
  induction L with
  | nil => intro acc h; exact h
  | cons l r ih =>
    intro acc h
    rw [encF]
    exact ih _ (by rw [alignL_length]; omega)
theorem dec_told {width : Nat} (hW : width ≤ 32768) {t : List Nat} : ∀ (Ps : List (List Nat)) (acc : List Nat) (out : List (List Nat)), (∀ P ∈ Ps, P.length = width ∧ Bit P) → acc.length % 8 = 0 → encF width (Ps.map chg) acc = t →
    decF t width Ps.length acc.length out = .inl (out ++ Ps) := by
  intro Ps
  induction Ps with
  | nil => intro acc out _ _ _; simp [decF]
  | cons P r ih =>
    intro acc out hP ha ht
    obtain ⟨hPl, hPb⟩ := hP P (by simp)
    rw [List.map_cons, encF] at ht
    obtain ⟨X, hX⟩ := encF_pre width (r.map chg) (alignL (acc ++ rowB false (lensF 0 (chg P) width)))
    have hd : t.drop acc.length = rowB false (lensF 0 (chg P) P.length) ++ (List.replicate ((8 - (acc ++ rowB false (lensF 0 (chg P) width)).length % 8) % 8) 0 ++ X) := by
      rw [← ht, hX, alignL, hPl]
      simp only [List.append_assoc, List.drop_left]
    have hpt : acc.length ≤ t.length := by
      rw [← ht, hX, alignL]
      simp only [List.length_append]; omega
    have hR := readRow_told hPb (by omega) hpt hd
    rw [hPl] at hR
    rw [List.length_cons, decF, hR]
    simp only
    have e : (acc.length + (rowB false (lensF 0 (chg P) width)).length + 7) / 8 * 8 = (alignL (acc ++ rowB false (lensF 0 (chg P) width))).length := by
      rw [alignL_length, List.length_append]
    rw [e, ih _ (out ++ [P]) (fun Q hQ => hP Q (by simp [hQ])) (by rw [alignL_length]; omega) ht]
    simp
theorem chg_white (n : Nat) : chg (runP n false) = [] := chF_same 0 n 0
end Go.Proofs.YtdjoigobmmaaiaaDoor

namespace Go.Proofs.YtdjoigobmmaaiaaDoor
open Go.RowKit Go.Mz
set_option linter.unusedVariables false
set_option linter.unusedSimpArgs false
set_option maxRecDepth 100000

theorem okL_chg (y : List Nat ⊕ Nat) : okL y = chg (okP y) := by cases y <;> rfl
theorem rowOk_chg {P : List Nat} {width : Nat} (h : P.length = width) (hw : width ≤ 400) : RowOk width (chg P) :=
  ⟨chg_inc P, fun x hx => by rw [← h]; exact chg_lt P x hx, by have := chg_len P; omega⟩
theorem bit_rowB : ∀ (L : List Nat) (b : Bool), Bit (rowB b L) := by
  intro L
  induction L with
  | nil => intro b; exact bit_nil
  | cons n r ih => intro b; rw [rowB]; exact (bit_tellB b n).append (ih _)
theorem bit_alignL {l : List Nat} (h : Bit l) : Bit (alignL l) := by
  rw [alignL]; exact h.append (bit_rep _)


theorem rFits_any (w : World) (width : Int) : Calls Tryd.prog 37 #[.int .i64 width] w fun e w' => e = .returned (.bool (decide (1 ≤ width ∧ width ≤ 32768))) ∧ w' = w := by
  by_cases h1 : 1 ≤ width
  · by_cases h2 : width ≤ 32768
    · rw [decide_eq_true ⟨h1, h2⟩]
      go_enter Tryd.func37, Tryd.ntmps37
      go_wp2_with fail
      go_ret
      exact ⟨rfl, rfl⟩
    · rw [decide_eq_false (by omega)]
      go_enter Tryd.func37, Tryd.ntmps37
      go_wp2_with fail
      go_ret
      exact ⟨rfl, rfl⟩
  · rw [decide_eq_false (by omega)]
    go_enter Tryd.func37, Tryd.ntmps37
    go_wp2_with fail
    go_ret
    exact ⟨rfl, rfl⟩


theorem decF_bd {t : List Nat} {width : Nat} : ∀ (n p : Nat) (acc : List (List Nat)), p ≤ t.length → t.length % 8 = 0 → (∀ P ∈ acc, P.length = width ∧ Bit P) →
    (∀ P ∈ okD (decF t width n p acc), P.length = width ∧ Bit P) ∧ (okD (decF t width n p acc)).length ≤ acc.length + n := by
  intro n
  induction n with
  | zero => intro p acc _ _ h; rw [decF]; exact ⟨h, Nat.le_refl _⟩
  | succ n ih =>
    intro p acc hp h8 h
    rw [decF]
    have hb := readRow_bd (t := t) (width := width) (p := p) hp
    cases hr : readRow t width p with
    | mk k y =>
      rw [hr] at hb
      cases y with
      | inr e => exact ⟨fun P hP => by simp [okD] at hP, by simp [okD]⟩
      | inl px =>
        have := ih ((k + 7) / 8 * 8) (acc ++ [px]) (by have := hb.1; simp only at this; omega) h8 (fun P hP => by
          rcases List.mem_append.1 hP with h' | h'
          · exact h P h'
          · rw [List.mem_singleton.1 h']; exact hb.2.1 px rfl)
        refine ⟨this.1, ?_⟩
        have h2 := this.2
        rw [List.length_append, List.length_singleton] at h2
        show (okD (decF t width n ((k + 7) / 8 * 8) (acc ++ [px]))).length ≤ _
        omega


set_option maxHeartbeats 4000000 in
theorem rsame14_any {w0 w : World} {F : SProp} (h : St w0 w F) {R : List (Value × List Nat)} {Ps : List (List Nat)} {va vb : Value} (ha : Stb w0 F (fun w => Reads w 1 va R.length (R.map Prod.fst))) (hr : Stb w0 F (fun w => ∀ x ∈ R, Reads w 1 x.1 x.2.length (x.2.map nv))) (hb : Stb w0 F (fun w => Reads w 1 vb Ps.length (Ps.map txv)))
    (hP : ∀ P ∈ Ps, P.length ≤ 1000000 ∧ Bit P) (hN : Ps.length ≤ 100000) (hRP : R.map Prod.snd = Ps.map chg) :
    Calls Tryd.prog 16 #[va, vb] w fun e w' => e = .returned (.bool true) ∧ St w0 w' F := by
  obtain ⟨a0, c0, rfl⟩ := (ha w h).sub
  obtain ⟨a1, c1, rfl⟩ := (hb w h).sub
  have hl : R.length = Ps.length := by have := congrArg List.length hRP; simpa using this
  obtain ⟨n, hn⟩ : ∃ n, n = Ps.length := ⟨_, rfl⟩
  have HA := Lib.hid ha; have HR := Lib.hid hr; have HB := Lib.hid hb; have HP := Lib.hid hP
  have HRP := Lib.hid hRP
  have H := Lib.hid h
  clear h ha hr hb hP hRP
  have hlR : R.length = n := by omega
  rw [hlR, ← hn]
  rw [← hn] at hN
  have HL := Lib.hid (⟨hlR, hn⟩ : _ ∧ _); clear hlR hn hl
  go_enter Tryd.func16, Tryd.ntmps16
  go_wp2_with fail
  go_loopw [5] (fun vi wr => ∃ k : Nat, k ≤ n ∧ vi = .int .i64 k ∧ St w0 wr F) (fun vi _ => n - (intOf vi).toNat)
  case atStart => exact ⟨0, by omega, rfl, H.out⟩
  case round =>
    clear H
    obtain ⟨k, hk, rfl, hst⟩ := hrel
    by_cases hkn : k < n
    · have hkl : (k : Int) < n := by omega
      obtain ⟨g, o, e0, e1⟩ := (HA.out wr hst).at_ (j := k) (by rw [HL.out.1]; exact hkn)
      obtain ⟨g', o', e0', e1'⟩ := (HB.out wr hst).at_ (j := k) (by rw [← HL.out.2]; exact hkn)
      subst e0 e0'
      have hx := List.getElem?_eq_getElem (l := R) (i := k) (by rw [HL.out.1]; exact hkn)
      have hy := List.getElem?_eq_getElem (l := Ps) (i := k) (by rw [← HL.out.2]; exact hkn)
      have hz := congrArg (fun l => l[k]?) HRP.out
      simp only [List.getElem?_map] at hz
      rw [hx, hy] at hz
      rw [List.getElem?_map, hx] at e1
      rw [List.getElem?_map, hy] at e1'
      simp only [Option.map_some, txv, Option.some.injEq] at e1 e1' hz
      have hrd := HR.out wr hst _ (List.getElem_mem (l := R) (n := k) (by rw [HL.out.1]; exact hkn))
      have hrd2 : Stb w0 F (fun w => Reads w 1 (R[k]'(by rw [HL.out.1]; exact hkn)).1 (R[k]'(by rw [HL.out.1]; exact hkn)).2.length ((R[k]'(by rw [HL.out.1]; exact hkn)).2.map nv)) := fun w h => HR.out w h _ (List.getElem_mem (l := R) (n := k) (by rw [HL.out.1]; exact hkn))
      obtain ⟨hPl, hPb⟩ := HP.out _ (List.getElem_mem (l := Ps) (n := k) (by rw [← HL.out.2]; exact hkn))
      have hxx : (R.map Prod.fst)[k]? = some (R[k]'(by rw [HL.out.1]; exact hkn)).1 := by rw [List.getElem?_map, hx]; rfl
      clear hx hy
      generalize R[k]'(by rw [HL.out.1]; exact hkn) = x at *
      generalize Ps[k]'(by rw [← HL.out.2]; exact hkn) = P at *
      obtain ⟨xv, xl⟩ := x
      simp only at hz e1 hrd hrd2 hxx
      subst hz
      obtain ⟨ax, cx, rfl⟩ := hrd.sub
      have C0 := changes_any hst.drew hPb hPl (sb := ⟨(tx P).toArray⟩) rfl
      generalize chg P = xl at *
      have HC := Lib.hid C0
      clear C0
      have HX := Lib.hid hrd2
      have HE := Lib.hid (fun w' (h : St w0 w' F) => by
        obtain ⟨g2, o2, e2, e3⟩ := (HA.out w' h).at_ (j := k) (by rw [HL.out.1]; exact hkn)
        cases e2
        rw [hxx] at e3
        exact e3 : ∀ w', St w0 w' F → w'.cell? ⟨g, o + k, none⟩ = some (.slice ax xl.length cx))
      clear hst hrd hrd2 hPl hPb hxx
      go_wp2_with fail
      go_region_with (first
        | (go_at_call 17; refine HS.out.mono ?_; rintro e w3 ⟨rfl, n3, rfl⟩; have H3 := Lib.hid (H2.out.drewN n3).right; clear HS H2; generalize w2.drewN n3 = w3 at *)
        | (go_at_call 25; refine HC.out.mono ?_; rintro e w2 ⟨v2, rfl, h2⟩; obtain ⟨a2, c2, rfl⟩ := h2.reads.sub; have HS := Lib.hid (same_any (HX.out _ h2.right) h2.reads); rw [decide_eq_true rfl] at HS; have e5 := HE.out _ h2.right; have H2 := Lib.hid h2; clear h2 HC))
      all_goals
        go_wp2_with fail
        exact ⟨⟨k + 1, by omega, by go_num, H3.out⟩, by simp [intOf]; omega⟩
    · obtain rfl : k = n := by omega
      have HST := Lib.hid hst; clear hst
      go_wp2_with fail
      go_ret
      exact ⟨rfl, HST.out⟩
/-- What Decode gives, whatever the numbers are. -/
def decG (t : List Nat) (width n : Int) : List (List Nat) ⊕ Nat := if 1 ≤ width ∧ width ≤ 32768 ∧ 0 ≤ n then decF t width.toNat n.toNat 0 [] else .inr 1
theorem decG_bd {t : List Nat} {width n : Int} (h8 : t.length % 8 = 0) (hw : width ≤ 1000000) (hn : n ≤ 1000) :
    (∀ P ∈ okD (decG t width n), P.length ≤ 1000000 ∧ Bit P) ∧ (okD (decG t width n)).length ≤ 1000 := by
  rw [decG]
  split
  · have := decF_bd (t := t) (width := width.toNat) n.toNat 0 [] (Nat.zero_le _) h8 (fun P hP => by cases hP)
    exact ⟨fun P hP => by have := this.1 P hP; exact ⟨by omega, this.2⟩, by have := this.2; simp at this; omega⟩
  · exact ⟨fun P hP => by simp [okD] at hP, by simp [okD]⟩


end Go.Proofs.YtdjoigobmmaaiaaDoor
