/-
  Layer 14: texts of bytes that came in.
  Layer 14: the document's pages (package mezzotintref14): Encode, Decode, Same.
  Layer 14: so many rows that are told by their lengths, of any bytes; and any rows, as they are told.
-/
import Derived.Test.YtljdohfdafnnaaaDoorStructs
import Derived.Test.YtljdohfdafnnaaaDoorMhV
import Derived.Test.YtljdohfdafnnaaaDoorMhDa
import Derived.Test.YtljdohfdafnnaaaDoorMhE
import Derived.Test.YtljdohfdafnnaaaDoorMhB
import Derived.Test.YtljdohfdafnnaaaDoorRef02
import Derived.Test.YtljdohfdafnnaaaDoorRef02b
import Derived.Deep.RegionWith
import Derived.Deep.QuietTactic
import Derived.BigQuiet
import Derived.RegionTactic
import Derived.OpenShut
namespace Go.Proofs.YtljdohfdafnnaaaDoor
open Go.RowKit Go.Mz
set_option linter.unusedVariables false
set_option linter.unusedSimpArgs false

theorem bytes_cs {H : Type} {enc : TypeId × Value → H} {w : World} {base : Nat} {spare : Nat → Bool} {held : Bool} {fuel : Nat} {cs : List Value} {x : DataW H × List MemPlace}
    (h : DataW.trod enc Tryd.prog w base spare held fuel 22 cs = some x) :
    ∃ (v : Value) (bs : List UInt8), cs = [v] ∧ Reads w 1 v bs.length (bs.map bv) := by
  rcases Deep.open_slice Tryd.underlying22 h with ⟨h0, _⟩ | ⟨b, l, c, m, n, D, Pl, hcs, _, hl, hm, hmm, _, hi⟩
  · exact ⟨_, [], h0, ⟨rfl, .inl ⟨rfl, rfl⟩⟩⟩
  · have hC : Tryd.prog.cellsOf 5 = 1 := by kernel_rfl
    obtain ⟨L, h1, h2, hx⟩ := reads_of_each (α := UInt8) (fun b => [bv b]) (m := 1) (by decide) (fun _ => rfl) hl hm (fun x => True) (fun i hil => by
      obtain ⟨cs, hc, ht⟩ := hi i (by rw [hmm]; split <;> omega)
      rw [hC] at hc
      obtain ⟨_, hlen, hat⟩ := World.cells?_some hc
      obtain ⟨z, rfl, _, hw⟩ := DataW.trod_int Tryd.underlying5 ht
      have hz : 0 ≤ z ∧ z < 256 := by
        simp [Lit.wf, IntKind.min, IntKind.max, IntKind.bits, IntKind.signed] at hw
        omega
      refine ⟨UInt8.ofNat z.toNat, fun j u hu => ?_, trivial⟩
      cases j with
      | zero =>
        cases hu
        have := hat 0 (by decide)
        rw [Deep.add_add] at this
        show _ = some (Value.int .u8 ((UInt8.ofNat z.toNat).toNat : Int))
        have e : (UInt8.ofNat z.toNat).toNat = z.toNat := by simp; omega
        rw [e, Int.toNat_of_nonneg hz.1]
        exact this
      | succ j => simp at hu)
    have e : L.flatMap (fun b => [bv b]) = L.map bv := by
      clear h1 h2 hx
      induction L with
      | nil => rfl
      | cons b l ih => rw [List.flatMap_cons, ih]; rfl
    rw [e] at h2
    exact ⟨_, L, hcs, by rw [h1]; exact h2⟩
/-- Texts, each with its slice. -/
def textsIn (w : World) (L : List (Value × List UInt8)) : Prop := ∀ x ∈ L, Reads w 1 x.1 x.2.length (x.2.map bv)
theorem rows_in {H : Type} {enc : TypeId × Value → H} {w : World} {base : Nat} {spare : Nat → Bool} {held : Bool} {fuel : Nat} {a : Option Addr} {len cap : Nat} {x : DataW H × List MemPlace}
    (h : DataW.trod enc Tryd.prog w base spare held fuel 24 (Value.slice a len cap).cells.toList = some x) :
    ∃ L : List (Value × List UInt8), L.length = len ∧ Reads w 1 (.slice a len cap) len (L.map Prod.fst) ∧ textsIn w L := by
  rcases Deep.open_slice Tryd.underlying24 h with ⟨h0, _⟩ | ⟨b, l, c, m, n, D, Pl, hcs, _, hl, hm, hmm, _, hi⟩
  · simp [Value.cells] at h0
    obtain ⟨rfl, rfl, rfl⟩ := h0
    exact ⟨[], rfl, ⟨rfl, .inl ⟨rfl, rfl⟩⟩, fun x hx => by cases hx⟩
  · simp [Value.cells] at hcs
    obtain ⟨rfl, rfl, rfl⟩ := hcs
    have hC : Tryd.prog.cellsOf 22 = 1 := by kernel_rfl
    obtain ⟨L, h1, h2, hx⟩ := reads_of_each (α := Value × List UInt8) (fun b => [b.1]) (m := 1) (by decide) (fun _ => rfl) hl hm (fun x => Reads w 1 x.1 x.2.length (x.2.map bv)) (fun i hil => by
      obtain ⟨cs, hc, ht⟩ := hi i (by rw [hmm]; split <;> omega)
      rw [hC] at hc
      obtain ⟨_, hlen, hat⟩ := World.cells?_some hc
      obtain ⟨v, bs, rfl, hv⟩ := bytes_cs ht
      refine ⟨(v, bs), fun j u hu => ?_, hv⟩
      cases j with
      | zero =>
        cases hu
        have := hat 0 (by decide)
        rw [Deep.add_add] at this
        exact this
      | succ j => simp at hu)
    have e : L.flatMap (fun b => [b.1]) = L.map Prod.fst := by
      clear h1 h2 hx
      induction L with
      | nil => rfl
      | cons b l ih => rw [List.flatMap_cons, ih]; rfl
    rw [e] at h2
    exact ⟨L, h1, h2, hx⟩
end Go.Proofs.YtljdohfdafnnaaaDoor

namespace Go.Proofs.YtljdohfdafnnaaaDoor
open Go.RowKit Go.Mz
set_option linter.unusedVariables false
set_option linter.unusedSimpArgs false
set_option maxRecDepth 100000

theorem okL_chg (y : List Nat ⊕ Nat) : okL y = chg (okP y) := by cases y <;> rfl
theorem rowOk_chg {P : List Nat} {width : Nat} (h : P.length = width) (hw : width ≤ 400) : RowOk width (chg P) :=
  ⟨chg_inc P, fun x hx => by rw [← h]; exact chg_lt P x hx, by have := chg_len P; omega⟩
theorem bit_rowB : ∀ (L : List Nat) (b : Bool), Bit (rowB b L) := by
  intro L
  induction L with
  | nil => intro b; exact bit_nil
  | cons n r ih => intro b; rw [rowB]; exact (bit_tellB b n).append (ih _)
theorem bit_alignL {l : List Nat} (h : Bit l) : Bit (alignL l) := by
  rw [alignL]; exact h.append (bit_rep _)

set_option maxHeartbeats 4000000 in
theorem rencode14_any {w0 w : World} {F : SProp} (h : St w0 w F) {Ps : List (List Nat)} {v : Value} (hv : Stb w0 F (fun w => Reads w 1 v Ps.length (Ps.map txv))) {width : Nat} (hw : width ≤ 400) (hP : ∀ P ∈ Ps, P.length = width ∧ Bit P) (hN : Ps.length ≤ 1000) :
    Calls Tryd.prog 15 #[v] w fun e w' => e = .returned (.string ⟨(bytesB false (encF width (Ps.map chg) [])).toArray⟩) ∧ St w0 w' F := by
  obtain ⟨a0, c0, rfl⟩ := (hv w h).sub
  have HV := Lib.hid hv; have HP := Lib.hid hP
  obtain ⟨res, hres⟩ : ∃ res, encF width (Ps.map chg) [] = res := ⟨_, rfl⟩
  rw [hres]
  have HRES := Lib.hid hres; clear hres hv hP
  have H := Lib.hid h; clear h
  go_enter Tryd.func15, Tryd.ntmps15
  go_wp2_with fail
  go_loopw [3, 4] (fun vs vi wr => ∃ (k : Nat) (acc : List Nat), k ≤ Ps.length ∧ vi = .int .i64 k ∧ vs = .string ⟨(tx acc).toArray⟩ ∧ acc.length ≤ 130000 * k ∧ Bit acc ∧ encF width ((Ps.map chg).drop k) acc = res ∧ St w0 wr F) (fun _ vi _ => Ps.length - (intOf vi).toNat)
  case atStart => exact ⟨0, [], by omega, rfl, rfl, by simp, bit_nil, HRES.out, H.out⟩
  case round =>
    clear H HRES
    obtain ⟨k, acc, hk, rfl, rfl, hal, hba, hall, hst⟩ := hrel
    have hla : (tx acc).length = acc.length := by simp
    by_cases hkn : k < Ps.length
    · have hkl : (k : Int) < Ps.length := by omega
      obtain ⟨g, o, rfl, e1⟩ := (HV.out wr hst).at_ hkn
      have hx := List.getElem?_eq_getElem hkn
      rw [List.getElem?_map, hx] at e1
      simp only [Option.map_some, txv] at e1
      obtain ⟨hPl, hPb⟩ := HP.out _ (List.getElem_mem hkn)
      have hd : (Ps.map chg).drop k = chg Ps[k] :: (Ps.map chg).drop (k + 1) := by
        rw [List.drop_eq_getElem_cons (by simpa using hkn), List.getElem_map]
      rw [hd, encF] at hall
      clear hx hd
      generalize Ps[k] = P at *
      have C1 := rrow_any hst hPb (by omega) (sb := ⟨(tx P).toArray⟩) rfl
      rw [row_told hPb, hPl] at C1
      have hbl := rowB_lenF (rowOk_chg hPl hw) (by omega)
      have hbb := bit_rowB (lensF 0 (chg P) width) false
      generalize rowB false (lensF 0 (chg P) width) = X at *
      have hlx : (tx X).length = X.length := by simp
      have hl2 : (acc ++ X).length = acc.length + X.length := List.length_append
      have hal2 := alignL_len (acc ++ X)
      have hal5 : (alignL (acc ++ X)).length ≤ 130000 * (k + 1) := by omega
      have HA := Lib.hid (fun w => ralign_any (l := acc ++ X) (w := w) (by omega) (s := ⟨(tx acc).toArray⟩ ++ ⟨(tx X).toArray⟩) (by rw [tx_append]; exact ByteArray.mk_append_mk _ _))
      have HH := Lib.hid (⟨hal5, bit_alignL (hba.append hbb), hall⟩ : _ ∧ _ ∧ _)
      have HC1 := Lib.hid C1
      clear C1 hall hba hbb hal5 hal2 hst hPl hPb
      go_wp2_with fail
      refine HC1.out.mono ?_
      rintro e w2 ⟨rfl, h2⟩
      have H2 := Lib.hid h2; clear h2 HC1
      go_wp2_with fail
      refine (HA.out _).mono ?_
      rintro e w3 ⟨rfl, rfl⟩
      go_wp2_with fail
      exact ⟨⟨k + 1, alignL (acc ++ X), by omega, by go_num, rfl, HH.out.1, HH.out.2.1, HH.out.2.2, H2.out⟩, by simp [intOf]; omega⟩
    · obtain rfl : k = Ps.length := by omega
      rw [List.drop_of_length_le (by simp), encF] at hall
      have HRS := Lib.hid hall
      have HBY := Lib.hid (rbytes_any hba false hst (by omega) (s := ⟨(tx acc).toArray⟩) rfl)
      clear hst hall hba
      go_wp2_with fail
      refine HBY.out.mono ?_
      rintro e w5 ⟨rfl, h5⟩
      have H5 := Lib.hid h5; clear h5 HBY
      go_wp2_with fail
      go_ret
      rw [← HRS.out]
      exact ⟨rfl, H5.out⟩

theorem rFits_any (w : World) (width : Int) : Calls Tryd.prog 36 #[.int .i64 width] w fun e w' => e = .returned (.bool (decide (1 ≤ width ∧ width ≤ 32768))) ∧ w' = w := by
  by_cases h1 : 1 ≤ width
  · by_cases h2 : width ≤ 32768
    · rw [decide_eq_true ⟨h1, h2⟩]
      go_enter Tryd.func36, Tryd.ntmps36
      go_wp2_with fail
      go_ret
      exact ⟨rfl, rfl⟩
    · rw [decide_eq_false (by omega)]
      go_enter Tryd.func36, Tryd.ntmps36
      go_wp2_with fail
      go_ret
      exact ⟨rfl, rfl⟩
  · rw [decide_eq_false (by omega)]
    go_enter Tryd.func36, Tryd.ntmps36
    go_wp2_with fail
    go_ret
    exact ⟨rfl, rfl⟩

theorem rdecode14_bad (w : World) (s : ByteArray) (width n : Int) (h : ¬ (1 ≤ width ∧ width ≤ 32768) ∨ n < 0) :
    Calls Tryd.prog 10 #[.string s, .int .i64 width, .int .i64 n] w fun e w' => e = .returned (.tuple #[.slice none 0 0, .int .i64 1]) ∧ w' = w := by
  by_cases hw : 1 ≤ width ∧ width ≤ 32768
  · have hn : n < 0 := by rcases h with h | h; exact absurd hw h; exact h
    have hnd : decide (n < 0) = true := decide_eq_true hn
    have HFT := Lib.hid (fun w => by have := rFits_any w width; rw [decide_eq_true hw] at this; exact this)
    clear h hw
    go_enter Tryd.func10, Tryd.ntmps10
    go_wp2_with fail
    refine (HFT.out _).mono ?_
    rintro e w2 ⟨rfl, rfl⟩
    go_wp2_with fail
    go_ret2
    exact ⟨rfl, rfl⟩
  · have HFT := Lib.hid (fun w => by have := rFits_any w width; rw [decide_eq_false hw] at this; exact this)
    clear h hw
    go_enter Tryd.func10, Tryd.ntmps10
    go_wp2_with fail
    refine (HFT.out _).mono ?_
    rintro e w2 ⟨rfl, rfl⟩
    go_wp2_with fail
    go_ret2
    exact ⟨rfl, rfl⟩

theorem decF_bd {t : List Nat} {width : Nat} : ∀ (n p : Nat) (acc : List (List Nat)), p ≤ t.length → t.length % 8 = 0 → (∀ P ∈ acc, P.length = width ∧ Bit P) →
    (∀ P ∈ okD (decF t width n p acc), P.length = width ∧ Bit P) ∧ (okD (decF t width n p acc)).length ≤ acc.length + n := by
  intro n
  induction n with
  | zero => intro p acc _ _ h; rw [decF]; exact ⟨h, Nat.le_refl _⟩
  | succ n ih =>
    intro p acc hp h8 h
    rw [decF]
    have hb := readRow_bd (t := t) (width := width) (p := p) hp
    cases hr : readRow t width p with
    | mk k y =>
      rw [hr] at hb
      cases y with
      | inr e => exact ⟨fun P hP => by simp [okD] at hP, by simp [okD]⟩
      | inl px =>
        have := ih ((k + 7) / 8 * 8) (acc ++ [px]) (by have := hb.1; simp only at this; omega) h8 (fun P hP => by
          rcases List.mem_append.1 hP with h' | h'
          · exact h P h'
          · rw [List.mem_singleton.1 h']; exact hb.2.1 px rfl)
        refine ⟨this.1, ?_⟩
        have h2 := this.2
        rw [List.length_append, List.length_singleton] at h2
        show (okD (decF t width n ((k + 7) / 8 * 8) (acc ++ [px]))).length ≤ _
        omega

set_option maxHeartbeats 4000000 in
theorem rdecode14_any {w0 w : World} {F : SProp} (h : St w0 w F) {bs : List UInt8} (hl : bs.length ≤ 1000000) {width N : Nat} (h1 : 1 ≤ width) (hw : width ≤ 32768) (hN : N ≤ 1000) {s : ByteArray} (hs : s = ⟨bs.toArray⟩) :
    Calls Tryd.prog 10 #[.string s, .int .i64 (width : Int), .int .i64 (N : Int)] w fun e w' => ∃ v,
      e = .returned (.tuple #[v, .int .i64 (erD (decF (bitsL false bs) width N 0 []) : Nat)]) ∧ St w0 w' (own 9 1 v (okD (decF (bitsL false bs) width N 0 [])).length ((okD (decF (bitsL false bs) width N 0 [])).map txv) * F) := by
  subst hs
  have HFT := Lib.hid (fun w => by have := rFits_any w (width : Int); rw [decide_eq_true ⟨by omega, by omega⟩] at this; exact this)
  have hbl : (bitsL false bs).length = 8 * bs.length := length_bitsL _ _
  have hbt := bit_bitsL false bs
  obtain ⟨res, hres⟩ : ∃ res, decF (bitsL false bs) width N 0 [] = res := ⟨_, rfl⟩
  rw [hres]
  have HO := Lib.hid (of_any bs false h (by omega))
  generalize bitsL false bs = t at *
  have HRES := Lib.hid hres; clear hres
  have T := elemT9
  clear h
  go_enter Tryd.func10, Tryd.ntmps10
  go_wp2_with fail
  refine (HFT.out _).mono ?_
  rintro e w2 ⟨rfl, rfl⟩
  go_wp2_with fail
  refine HO.out.mono ?_
  rintro e w3 ⟨rfl, h3⟩
  obtain ⟨sb, hsb⟩ : ∃ sb : ByteArray, sb = ⟨(tx t).toArray⟩ := ⟨_, rfl⟩
  rw [← hsb]
  have HRR := Lib.hid (fun (w' : World) (G : SProp) (h : St w0 w' G) (p : Nat) (hp : p ≤ 8 * bs.length) => rreadRow_any h hbt (by omega) (p := p) (by omega) h1 hw hsb)
  have HBD := Lib.hid (fun (p : Nat) (hp : p ≤ 8 * bs.length) => by have B := readRow_bd (t := t) (width := width) (p := p) (by omega); rw [hbl] at B; exact B)
  have H3 := Lib.hid (St.own_nil 9 1 h3); clear h3 HO hsb hbt hbl
  go_wp2_with fail
  go_loopw [9, 10, 11] (fun vr va vi wr => ∃ (k p : Nat) (acc : List (List Nat)) (ao : Option Addr) (co : Nat), k ≤ N ∧ vi = .int .i64 k ∧ va = .int .i64 p ∧ vr = .slice ao acc.length co ∧ p ≤ 8 * bs.length ∧ acc.length = k ∧ decF t width (N - k) p acc = res ∧ St w0 wr (own 9 1 (.slice ao acc.length co) acc.length (acc.map txv) * F)) (fun _ _ vi _ => N - (intOf vi).toNat)
  case atStart => exact ⟨0, 0, [], none, 0, by omega, rfl, rfl, rfl, by omega, rfl, HRES.out, H3.out⟩
  case round =>
    clear H3 HRES
    obtain ⟨k, p, acc, ao, co, hk, rfl, rfl, rfl, hp, hRk, hall, hst⟩ := hrel
    by_cases hkn : k < N
    · have hkl : (k : Int) < N := by omega
      obtain ⟨m, hm⟩ : ∃ m, N - k = m + 1 := ⟨N - k - 1, by omega⟩
      rw [hm, decF] at hall
      have C1 := HRR.out _ _ hst p hp
      have hbd := HBD.out p hp
      have hm2 : N - (k + 1) = m := by omega
      cases hr : readRow t width p with
      | mk q y =>
        rw [hr] at hall C1 hbd
        have HC1 := Lib.hid C1; clear C1 hst
        obtain ⟨hq, hb1, hb2⟩ := hbd
        simp only at hq
        cases y with
        | inr er =>
          simp only at hall
          have her := hb2 er rfl
          have hx0 : ¬ (er : Int) = 0 := by omega
          have HRS := Lib.hid hall
          clear hall hr hb1 hb2 hm hm2 hq hRk
          go_wp2_with fail
          refine HC1.out.mono ?_
          rintro e w5 ⟨rfl, h5⟩
          have H5 := Lib.hid (St.own_nil 9 1 h5.right); clear h5 HC1
          simp only [erN]
          go_wp2_with fail
          go_ret2
          rw [← HRS.out]
          exact ⟨_, rfl, H5.out⟩
        | inl px =>
          simp only at hall
          have HRS := Lib.hid hall; have HRK := Lib.hid hRk
          have HM2 := Lib.hid hm2
          have hRl : acc.length ≤ 1000 := by omega
          clear hall hr hb1 hb2 hm hm2 hRk
          go_wp2_with fail
          refine HC1.out.mono ?_
          rintro e w5 ⟨rfl, h5⟩
          have H6 := Lib.hid h5; clear h5 HC1
          simp only [erN]
          go_wp2_with (at_builtin; apply stop)
          refine on (wpList_append_sep T rfl _ _ rfl rfl (H6.out.drop_alloc (.cells #[.string ⟨(tx px).toArray⟩] 9)) rfl (reads_str1 w5 (tx px)) (by intro u hu; rw [List.mem_singleton.1 hu]; rfl) (by unfold maxLen; omega) (by omega) ?_)
          intro v7 w7 h7 _
          have h7 : St w0 w7 (own 9 1 v7 (acc ++ [px]).length ((acc ++ [px]).map txv) * F) := by
            rw [List.length_append, List.map_append]; exact h7
          have hsn : (acc ++ [px]).length = acc.length + 1 := by simp
          generalize acc ++ [px] = acc2 at *
          obtain ⟨aN, cN, rfl⟩ := h7.reads.sub
          have HSN := Lib.hid hsn
          have H7 := Lib.hid h7
          clear h7 hsn H6
          go_wp2_with fail
          have := HRK.out
          have := HSN.out
          exact ⟨⟨k + 1, (q + 7) / 8 * 8, acc2, aN, cN, by omega, by go_num, by go_num, by first | rfl | (rw [HSN.out]; rfl), by omega, by omega, by rw [HM2.out]; exact HRS.out, H7.out⟩, by simp [intOf]; omega⟩
    · obtain rfl : k = N := by omega
      rw [Nat.sub_self, decF] at hall
      have HRS := Lib.hid hall
      have HST := Lib.hid hst
      clear hst hall
      go_wp2_with fail
      go_ret2
      rw [← HRS.out]
      exact ⟨_, rfl, HST.out⟩

set_option maxHeartbeats 4000000 in
theorem rsame14_any {w0 w : World} {F : SProp} (h : St w0 w F) {R : List (Value × List Nat)} {Ps : List (List Nat)} {va vb : Value} (ha : Stb w0 F (fun w => Reads w 1 va R.length (R.map Prod.fst))) (hr : Stb w0 F (fun w => ∀ x ∈ R, Reads w 1 x.1 x.2.length (x.2.map nv))) (hb : Stb w0 F (fun w => Reads w 1 vb Ps.length (Ps.map txv)))
    (hP : ∀ P ∈ Ps, P.length ≤ 1000000 ∧ Bit P) (hN : Ps.length ≤ 100000) (hRP : R.map Prod.snd = Ps.map chg) :
    Calls Tryd.prog 11 #[va, vb] w fun e w' => e = .returned (.bool true) ∧ St w0 w' F := by
  obtain ⟨a0, c0, rfl⟩ := (ha w h).sub
  obtain ⟨a1, c1, rfl⟩ := (hb w h).sub
  have hl : R.length = Ps.length := by have := congrArg List.length hRP; simpa using this
  obtain ⟨n, hn⟩ : ∃ n, n = Ps.length := ⟨_, rfl⟩
  have HA := Lib.hid ha; have HR := Lib.hid hr; have HB := Lib.hid hb; have HP := Lib.hid hP
  have HRP := Lib.hid hRP
  have H := Lib.hid h
  clear h ha hr hb hP hRP
  have hlR : R.length = n := by omega
  rw [hlR, ← hn]
  rw [← hn] at hN
  have HL := Lib.hid (⟨hlR, hn⟩ : _ ∧ _); clear hlR hn hl
  go_enter Tryd.func11, Tryd.ntmps11
  go_wp2_with fail
  go_loopw [5] (fun vi wr => ∃ k : Nat, k ≤ n ∧ vi = .int .i64 k ∧ St w0 wr F) (fun vi _ => n - (intOf vi).toNat)
  case atStart => exact ⟨0, by omega, rfl, H.out⟩
  case round =>
    clear H
    obtain ⟨k, hk, rfl, hst⟩ := hrel
    by_cases hkn : k < n
    · have hkl : (k : Int) < n := by omega
      obtain ⟨g, o, e0, e1⟩ := (HA.out wr hst).at_ (j := k) (by rw [HL.out.1]; exact hkn)
      obtain ⟨g', o', e0', e1'⟩ := (HB.out wr hst).at_ (j := k) (by rw [← HL.out.2]; exact hkn)
      subst e0 e0'
      have hx := List.getElem?_eq_getElem (l := R) (i := k) (by rw [HL.out.1]; exact hkn)
      have hy := List.getElem?_eq_getElem (l := Ps) (i := k) (by rw [← HL.out.2]; exact hkn)
      have hz := congrArg (fun l => l[k]?) HRP.out
      simp only [List.getElem?_map] at hz
      rw [hx, hy] at hz
      rw [List.getElem?_map, hx] at e1
      rw [List.getElem?_map, hy] at e1'
      simp only [Option.map_some, txv, Option.some.injEq] at e1 e1' hz
      have hrd := HR.out wr hst _ (List.getElem_mem (l := R) (n := k) (by rw [HL.out.1]; exact hkn))
      have hrd2 : Stb w0 F (fun w => Reads w 1 (R[k]'(by rw [HL.out.1]; exact hkn)).1 (R[k]'(by rw [HL.out.1]; exact hkn)).2.length ((R[k]'(by rw [HL.out.1]; exact hkn)).2.map nv)) := fun w h => HR.out w h _ (List.getElem_mem (l := R) (n := k) (by rw [HL.out.1]; exact hkn))
      obtain ⟨hPl, hPb⟩ := HP.out _ (List.getElem_mem (l := Ps) (n := k) (by rw [← HL.out.2]; exact hkn))
      have hxx : (R.map Prod.fst)[k]? = some (R[k]'(by rw [HL.out.1]; exact hkn)).1 := by rw [List.getElem?_map, hx]; rfl
      clear hx hy
      generalize R[k]'(by rw [HL.out.1]; exact hkn) = x at *
      generalize Ps[k]'(by rw [← HL.out.2]; exact hkn) = P at *
      obtain ⟨xv, xl⟩ := x
      simp only at hz e1 hrd hrd2 hxx
      subst hz
      obtain ⟨ax, cx, rfl⟩ := hrd.sub
      have C0 := changes_any hst.drew hPb hPl (sb := ⟨(tx P).toArray⟩) rfl
      generalize chg P = xl at *
      have HC := Lib.hid C0
      clear C0
      have HX := Lib.hid hrd2
      have HE := Lib.hid (fun w' (h : St w0 w' F) => by
        obtain ⟨g2, o2, e2, e3⟩ := (HA.out w' h).at_ (j := k) (by rw [HL.out.1]; exact hkn)
        cases e2
        rw [hxx] at e3
        exact e3 : ∀ w', St w0 w' F → w'.cell? ⟨g, o + k, none⟩ = some (.slice ax xl.length cx))
      clear hst hrd hrd2 hPl hPb hxx
      go_wp2_with fail
      go_region_with (first
        | (go_at_call 29; refine HS.out.mono ?_; rintro e w3 ⟨rfl, n3, rfl⟩; have H3 := Lib.hid (H2.out.drewN n3).right; clear HS H2; generalize w2.drewN n3 = w3 at *)
        | (go_at_call 13; refine HC.out.mono ?_; rintro e w2 ⟨v2, rfl, h2⟩; obtain ⟨a2, c2, rfl⟩ := h2.reads.sub; have HS := Lib.hid (same_any (HX.out _ h2.right) h2.reads); rw [decide_eq_true rfl] at HS; have e5 := HE.out _ h2.right; have H2 := Lib.hid h2; clear h2 HC))
      all_goals
        go_wp2_with fail
        exact ⟨⟨k + 1, by omega, by go_num, H3.out⟩, by simp [intOf]; omega⟩
    · obtain rfl : k = n := by omega
      have HST := Lib.hid hst; clear hst
      go_wp2_with fail
      go_ret
      exact ⟨rfl, HST.out⟩
/-- What Decode gives, whatever the numbers are. -/
def decG (t : List Nat) (width n : Int) : List (List Nat) ⊕ Nat := if 1 ≤ width ∧ width ≤ 32768 ∧ 0 ≤ n then decF t width.toNat n.toNat 0 [] else .inr 1
theorem decG_bd {t : List Nat} {width n : Int} (h8 : t.length % 8 = 0) (hw : width ≤ 1000000) (hn : n ≤ 1000) :
    (∀ P ∈ okD (decG t width n), P.length ≤ 1000000 ∧ Bit P) ∧ (okD (decG t width n)).length ≤ 1000 := by
  rw [decG]
  split
  · have := decF_bd (t := t) (width := width.toNat) n.toNat 0 [] (Nat.zero_le _) h8 (fun P hP => by cases hP)
    exact ⟨fun P hP => by have := this.1 P hP; exact ⟨by omega, this.2⟩, by have := this.2; simp at this; omega⟩
  · exact ⟨fun P hP => by simp [okD] at hP, by simp [okD]⟩
theorem decode_all {w0 w : World} {F : SProp} (h : St w0 w F) (htab : Tab w0 F) {bs : List UInt8} {vb : Value} (hb : Stb w0 F (fun w => Reads w 1 vb bs.length (bs.map bv))) (hl : bs.length ≤ 1000000) {width n : Int} (hn : n ≤ 1000) :
    Calls Tryd.prog 9 #[vb, .int .i64 width, .int .i64 n] w fun e w' => ∃ (v : Value) (R : List (Value × List Nat)),
      e = .returned (.tuple #[v, .int .i64 (erD (decG (bitsL false bs) width n) : Nat)]) ∧ R.map Prod.snd = (okD (decG (bitsL false bs) width n)).map chg ∧ St w0 w' (own 35 1 v R.length (R.map Prod.fst) * (rowsP R * F)) := by
  by_cases hc : 1 ≤ width ∧ width ≤ 32768 ∧ 0 ≤ n
  · rw [decG, if_pos hc]
    obtain ⟨W, rfl⟩ : ∃ W : Nat, width = W := ⟨width.toNat, by omega⟩
    obtain ⟨N, rfl⟩ : ∃ N : Nat, n = N := ⟨n.toNat, by omega⟩
    exact decode_any h htab hb hl (by omega) (by omega) (by omega)
  · rw [decG, if_neg hc]
    refine (decode_bad w vb width n (by omega)).mono ?_
    rintro e w2 ⟨rfl, rfl⟩
    exact ⟨_, [], rfl, rfl, St.own_nil 35 1 (rowsP_nil h)⟩
theorem rdecode14_all {w0 w : World} {F : SProp} (h : St w0 w F) {bs : List UInt8} (hl : bs.length ≤ 1000000) {width n : Int} (hn : n ≤ 1000) {s : ByteArray} (hs : s = ⟨bs.toArray⟩) :
    Calls Tryd.prog 10 #[.string s, .int .i64 width, .int .i64 n] w fun e w' => ∃ v,
      e = .returned (.tuple #[v, .int .i64 (erD (decG (bitsL false bs) width n) : Nat)]) ∧ St w0 w' (own 9 1 v (okD (decG (bitsL false bs) width n)).length ((okD (decG (bitsL false bs) width n)).map txv) * F) := by
  by_cases hc : 1 ≤ width ∧ width ≤ 32768 ∧ 0 ≤ n
  · rw [decG, if_pos hc]
    obtain ⟨W, rfl⟩ : ∃ W : Nat, width = W := ⟨width.toNat, by omega⟩
    obtain ⟨N, rfl⟩ : ∃ N : Nat, n = N := ⟨n.toNat, by omega⟩
    exact rdecode14_any h hl (by omega) (by omega) (by omega) hs
  · rw [decG, if_neg hc]
    refine (rdecode14_bad w s width n (by omega)).mono ?_
    rintro e w2 ⟨rfl, rfl⟩
    exact ⟨_, rfl, St.own_nil 9 1 h⟩
end Go.Proofs.YtljdohfdafnnaaaDoor

namespace Go.Proofs.YtljdohfdafnnaaaDoor.mpages
open Go.RowKit Go.Mz Go.ChangeShapes Go.WideShapes
set_option linter.unusedVariables false
set_option linter.unusedSimpArgs false
set_option maxRecDepth 100000

theorem cap_of {w : World} {g o n c : Nat} {xs : List Value} : Reads w 1 (.slice (some ⟨g, o, none⟩) n c) n xs → n ≤ c := by
  rintro ⟨_, ⟨h0, _⟩ | ⟨x, c, h1, h2, _, _⟩⟩
  · cases h0
  · cases h1; omega

def pairV (y : Int × Int) : Value := .agg #[.int .i64 y.1, .int .i64 y.2]
theorem pair_in {H : Type} {enc : TypeId × Value → H} {w : World} {r : Reach} {b0 base : Nat} {spare : Nat → Bool} {held : Bool} {fuel : Nat} {v : Value} {x : DataW H × List MemPlace}
    (hv : Value.okWide Tryd.prog w r b0 23 v) (h : DataW.trod enc Tryd.prog w base spare held fuel 23 v.cells.toList = some x) :
    ∃ y : Int × Int, v = pairV y ∧ (Lit.int .i64 y.1).wf = true ∧ (Lit.int .i64 y.2).wf = true := by
  simp only [Value.okWide, Tryd.underlying23] at hv
  obtain ⟨cs, rfl, h2, _⟩ := hv
  have hC : Tryd.prog.cellsOf 23 = 2 := by kernel_rfl
  have hE : Tryd.prog.cellsOf 3 = 1 := by kernel_rfl
  rw [hC] at h2
  obtain ⟨ys, m, _, _, _, hyl, hf⟩ := DataW.trod_array Tryd.underlying23 h
  have f0 := hf 0 (by decide)
  have f1 := hf 1 (by decide)
  rw [hE] at f0 f1
  obtain ⟨c0, c1, rfl⟩ : ∃ c0 c1, cs = #[c0, c1] := by
    obtain ⟨l⟩ := cs
    match l, h2 with
    | [a, b], _ => exact ⟨a, b, rfl⟩
  obtain ⟨y0, hy0⟩ : ∃ y, ys[0]? = some y := ⟨_, List.getElem?_eq_getElem (by omega)⟩
  obtain ⟨y1, hy1⟩ : ∃ y, ys[1]? = some y := ⟨_, List.getElem?_eq_getElem (by omega)⟩
  rw [hy0] at f0
  rw [hy1] at f1
  obtain ⟨a, ha, _, wa⟩ := DataW.trod_int Tryd.underlying3 f0
  obtain ⟨b, hb, _, wb⟩ := DataW.trod_int Tryd.underlying3 f1
  simp [Value.cells] at ha hb
  subst ha hb
  exact ⟨(a, b), rfl, wa, wb⟩

set_option maxHeartbeats 40000000 in
theorem walk (vb : Value) (bs : List UInt8) (y : Int × Int) (vL : Value) (L : List (Value × List UInt8)) (w : World) (hb : Reads w 1 vb bs.length (bs.map bv)) (hL : Reads w 1 vL L.length (L.map Prod.fst)) (hLs : textsIn w L) (htab : Lib.TabIs Tryd.prog w "strings.asciiSpace" .u8 Lib.asciiSpaceTab) :
    Calls Tryd.prog 3 #[vb, pairV y, vL] w fun e w' => e = .returned (.bool true) ∧ Below w.heap.size w w' := by
  obtain ⟨wid, n⟩ := y
  simp only [pairV]
  have HT := Lib.hid (tab_old htab); clear htab
  have HB := Lib.hid (Stb.of_old hb)
  have HL := Lib.hid (Stb.of_old hL)
  have HX := Lib.hid (fun x hx => Stb.of_old (hLs x hx))
  obtain ⟨a0, c0, rfl⟩ := hL.sub
  obtain ⟨a1, c1, rfl⟩ := hb.sub
  have hm := hL.len_le
  have hm1 := hb.len_le
  unfold maxLen at hm hm1
  clear hL hLs hb
  have H := Lib.hid ((St.init w).drop_alloc (.cells #[.int .i64 wid, .int .i64 n] 23))
  have fin : ∀ w', St w w' (Mz.old w) → Below w.heap.size w w' := fun w' h => (h.perm ((emp_star _).symm.trans (star_comm _ _))).below
  have FIN := Lib.hid fin; clear fin
  have T := elemRows
  have T9 := elemT9
  go_enter Tryd.func3, Tryd.ntmps3
  go_wp2_with fail
  go_region
  go_wp2_with fail
  refine (lives14 H.out.drew HT.out).mono ?_
  rintro e w1 ⟨rfl, h2⟩
  have H2 := Lib.hid h2; clear h2 H
  by_cases hbad : 80 < bs.length ∨ 40 < n ∨ 8 < L.length ∨ 300 < wid
  · have hd : (80 : Int) < bs.length ∨ (¬ (80 : Int) < bs.length ∧ 40 < n) ∨ (¬ (80 : Int) < bs.length ∧ ¬ 40 < n ∧ (8 : Int) < L.length) ∨ (¬ (80 : Int) < bs.length ∧ ¬ 40 < n ∧ ¬ (8 : Int) < L.length ∧ 300 < wid) := by omega
    clear hbad
    rcases hd with h1 | ⟨h1, h2⟩ | ⟨h1, h2, h3⟩ | ⟨h1, h2, h3, h4⟩
    · go_wp2_with fail
      refine (lives14 H2.out HT.out).mono ?_
      rintro e w2 ⟨rfl, h3⟩
      have H3 := Lib.hid h3; clear h3
      go_wp2_with fail
      go_ret
      exact ⟨rfl, FIN.out _ H3.out⟩
    · have h1d : decide ((80 : Int) < bs.length) = false := decide_eq_false h1
      have h2d : decide (40 < n) = true := decide_eq_true h2
      go_wp2_with fail
      refine (lives14 H2.out HT.out).mono ?_
      rintro e w2 ⟨rfl, h3⟩
      have H3 := Lib.hid h3; clear h3
      go_wp2_with fail
      go_ret
      exact ⟨rfl, FIN.out _ H3.out⟩
    · have h1d : decide ((80 : Int) < bs.length) = false := decide_eq_false h1
      have h2d : decide (40 < n) = false := decide_eq_false h2
      have h3d : decide ((8 : Int) < L.length) = true := decide_eq_true h3
      go_wp2_with fail
      refine (lives14 H2.out HT.out).mono ?_
      rintro e w2 ⟨rfl, h3⟩
      have H3 := Lib.hid h3; clear h3
      go_wp2_with fail
      go_ret
      exact ⟨rfl, FIN.out _ H3.out⟩
    · have h1d : decide ((80 : Int) < bs.length) = false := decide_eq_false h1
      have h2d : decide (40 < n) = false := decide_eq_false h2
      have h3d : decide ((8 : Int) < L.length) = false := decide_eq_false h3
      go_wp2_with fail
      refine (lives14 H2.out HT.out).mono ?_
      rintro e w2 ⟨rfl, h3⟩
      have H3 := Lib.hid h3; clear h3
      go_wp2_with fail
      go_ret
      exact ⟨rfl, FIN.out _ H3.out⟩
  have h1 : ¬ (80 : Int) < bs.length := by omega
  have h2 : ¬ 40 < n := by omega
  have h3 : ¬ (8 : Int) < L.length := by omega
  have h4 : ¬ 300 < wid := by omega
  have h1d : decide ((80 : Int) < bs.length) = false := decide_eq_false h1
  have h2d : decide (40 < n) = false := decide_eq_false h2
  have h3d : decide ((8 : Int) < L.length) = false := decide_eq_false h3
  have h4d : decide (300 < wid) = false := decide_eq_false h4
  have hL8 : L.length ≤ 8 := by omega
  have hb8 : bs.length ≤ 80 := by omega
  have hn4 : n ≤ 40 := by omega
  have hw3 : wid ≤ 300 := by omega
  clear hbad
  have HD := Lib.hid (decode_all (width := wid) (n := n) H2.out HT.out HB.out (by omega) (by omega))
  have HDD := Lib.hid (fun (w' : World) (G : SProp) (h : St w w' G) => rdecode14_all (width := wid) (n := n) h (bs := bs) (by omega) (by omega) (s := ⟨bs.toArray⟩) rfl)
  have hbd := decG_bd (t := bitsL false bs) (width := wid) (n := n) (by rw [length_bitsL]; omega) (by omega) (by omega)
  generalize decG (bitsL false bs) wid n = D at *
  have HBD := Lib.hid hbd; clear hbd
  generalize hPs0 : okD D = Ps0 at *
  generalize herD : erD D = er at *
  clear hPs0 herD H2
  clear h1 h2 h3 h4
  go_wp2_with fail
  refine HD.out.mono ?_
  rintro e w2 ⟨v2, R0, rfl, hR0, h2⟩
  obtain ⟨a2, c2, rfl⟩ := h2.reads.sub
  have H2 := Lib.hid h2; clear h2 HD
  have HR0 := Lib.hid hR0; clear hR0
  clear h1d h2d h3d h4d
  go_wp2_with (with_reducible (refine stop_conv 22 9 rfl ?_))
  refine on (wpList_b2s Tryd.underlying22 Tryd.underlying5 Tryd.underlying9 rfl rfl (HB.out _ H2.out.right.right) ?_)
  have HD := Lib.hid (HDD.out _ _ H2.out); clear HDD
  go_wp2_with fail
  refine HD.out.mono ?_
  rintro e w3 ⟨v3, rfl, h3⟩
  obtain ⟨a3, c3, rfl⟩ := h3.reads.sub
  have HS := Lib.hid (rsame14_any (F := own 9 1 (.slice a3 Ps0.length c3) Ps0.length (Ps0.map txv) * (own 35 1 (.slice a2 R0.length c2) R0.length (R0.map Prod.fst) * (rowsP R0 * Mz.old w))) h3 (R := R0) (Ps := Ps0) (fun w' h => h.right.reads) (fun w' h => rowsP_reads R0 _ h.right.right) (fun w' h => h.reads) HBD.out.1 (by have := HBD.out.2; omega) HR0.out)
  clear h3 HD H2
  have her : ((er : Int) != er) = false := by simp
  go_wp2_with fail
  refine HS.out.mono ?_
  rintro e w4 ⟨rfl, h4⟩
  have h4 := h4.right.right.right
  clear HS HBD HR0
  have H4 := Lib.hid (St.own_nil 9 1 (St.own_nil 35 1 (rowsP_nil h4))); clear h4
  go_wp2_with fail
  go_loopw [13, 14, 71] (fun vl vt vi wr => ∃ (k : Nat) (Ps : List (List Nat)) (R : List (Value × List Nat)) (ao at' : Option Addr) (co ct : Nat), k ≤ L.length ∧ vi = .int .i64 k ∧ vl = .slice ao R.length co ∧ vt = .slice at' Ps.length ct ∧ (wid < 1 → k = 0) ∧ Ps.length = k ∧ R.length = k ∧ R.map Prod.snd = Ps.map chg ∧ (∀ P ∈ Ps, (P.length : Int) = wid ∧ Bit P) ∧
    St w wr (own 9 1 (.slice at' Ps.length ct) Ps.length (Ps.map txv) * (own 35 1 (.slice ao R.length co) R.length (R.map Prod.fst) * (rowsP R * Mz.old w)))) (fun _ _ vi _ => L.length - (intOf vi).toNat)
  case atStart => exact ⟨0, [], [], none, none, 0, 0, by omega, rfl, rfl, rfl, fun _ => rfl, rfl, rfl, rfl, (fun P hP => by cases hP), H4.out⟩
  case round =>
    clear H4
    obtain ⟨k, Ps, R, ao, at', co, ct, hk, rfl, rfl, rfl, hw0, hPk, hRk, hRP, hPs, hst⟩ := hrel
    have hRl : R.length ≤ 8 := by omega
    have hPsl : Ps.length ≤ 8 := by omega
    have HRK := Lib.hid hRk; have HPK := Lib.hid hPk
    clear hRk hPk
    by_cases hkn : k < L.length
    · have hkl : (k : Int) < L.length := by omega
      obtain ⟨g, o, rfl, e1⟩ := (HL.out wr hst.right.right.right).at_ hkn
      have hx := List.getElem?_eq_getElem hkn
      rw [List.getElem?_map, hx] at e1
      simp only [Option.map_some] at e1
      have hrd := HX.out _ (List.getElem_mem hkn)
      obtain ⟨⟨xv, xl⟩, hxx⟩ : ∃ x, L[k] = x := ⟨_, rfl⟩
      rw [hxx] at e1 hrd
      simp only at e1 hrd
      clear hx hxx
      obtain ⟨ax, cx, rfl⟩ := (hrd wr hst.right.right.right).sub
      have hm9 := (hrd wr hst.right.right.right).len_le
      unfold maxLen at hm9
      by_cases hw1 : wid < 1
      · have HF := Lib.hid (FIN.out _ hst.right.right.right)
        have hw1d : decide (wid < 1) = true := decide_eq_true hw1
        clear hst hrd hPs hRP hw0
        go_wp2_with fail
        go_ret
        exact ⟨rfl, HF.out⟩
      have hw1d : decide (wid < 1) = false := decide_eq_false hw1
      by_cases hsh : (xl.length : Int) < wid
      · have HF := Lib.hid (FIN.out _ hst.right.right.right)
        clear hst hrd hPs hRP hw0
        go_wp2_with fail
        go_ret
        exact ⟨rfl, HF.out⟩
      · obtain ⟨width, rfl⟩ : ∃ width : Nat, wid = width := ⟨wid.toNat, by omega⟩
        obtain ⟨gx, ox, rfl, _⟩ := (hrd wr hst.right.right.right).at_ (j := 0) (by omega)
        have hcx := cap_of (hrd wr hst.right.right.right)
        have hci : (width : Int) ≤ cx := by omega
        have HPX := Lib.hid (pixels_any (bs := xl.take width) (v := .slice (some ⟨gx, ox, none⟩) width cx) (by
          rw [List.length_take, Nat.min_eq_left (by omega), List.map_take]
          exact Reads.takeR (hrd wr hst.right.right.right) (by omega)) (by rw [List.length_take]; omega))
        have hPl : (pxL (xl.take width)).length = width := by simp; omega
        have hPb := bit_pxL (xl.take width)
        generalize pxL (xl.take width) = P at *
        have HCH := Lib.hid (changes_any (hst.drewN 0) hPb (by omega) (sb := ⟨(tx P).toArray⟩) rfl)
        have hPs2 : ∀ Q ∈ Ps ++ [P], (Q.length : Int) = width ∧ Bit Q := fun Q hQ => by
          rcases List.mem_append.1 hQ with h | h
          · exact hPs Q h
          · rw [List.mem_singleton.1 h]; exact ⟨by omega, hPb⟩
        have hRP2 : R.map Prod.snd ++ [chg P] = (Ps ++ [P]).map chg := by rw [hRP, List.map_append]; rfl
        have HH := Lib.hid (⟨hPs2, hRP2⟩ : _ ∧ _)
        have hw0' : width = 0 → False := by omega
        have HST := Lib.hid hst
        clear hst hrd hPs hRP hPs2 hRP2 hPl hPb hw0
        go_wp2_with fail
        refine HPX.out.mono ?_
        rintro e w5 ⟨rfl, rfl⟩
        clear HPX
        go_wp2_with fail
        refine HCH.out.mono ?_
        rintro e w6 ⟨v6, rfl, h6⟩
        obtain ⟨a6, c6, rfl⟩ := h6.reads.sub
        obtain ⟨l6, hl6⟩ : ∃ l6, l6 = (chg P).length := ⟨_, rfl⟩
        have H6 := Lib.hid (h6.perm (show _ = own 35 1 (.slice ao R.length co) R.length (R.map Prod.fst) * (own 3 1 (.slice a6 (chg P).length c6) (chg P).length ((chg P).map nv) * (own 9 1 (.slice at' Ps.length ct) Ps.length (Ps.map txv) * (rowsP R * Mz.old w))) by ac_rfl)); clear h6 HCH HST
        rw [← hl6] at H6 ⊢
        have HL6 := Lib.hid hl6
        clear hl6
        go_wp2_with (at_builtin; apply stop)
        refine on (wpList_append_sep T rfl _ _ rfl rfl (H6.out.drop_alloc (.cells #[.slice a6 l6 c6] 35)) rfl (reads_row1 w6 (.slice a6 l6 c6)) (by intro u hu; rw [List.mem_singleton.1 hu]; rfl) (by unfold maxLen; omega) (by omega) ?_)
        intro v7 w7 h7 _
        obtain ⟨a7, c7, rfl⟩ := h7.reads.sub
        have H7 := Lib.hid (h7.perm (show _ = own 9 1 (.slice at' Ps.length ct) Ps.length (Ps.map txv) * (own 35 1 (.slice a7 (R.length + 1) c7) (R.length + 1) (R.map Prod.fst ++ [.slice a6 l6 c6]) * (own 3 1 (.slice a6 l6 c6) l6 ((chg P).map nv) * (rowsP R * Mz.old w))) by ac_rfl)); clear h7 H6
        go_wp2_with (at_builtin; apply stop)
        refine on (wpList_append_sep T9 rfl _ _ rfl rfl (H7.out.drop_alloc (.cells #[.string ⟨(tx P).toArray⟩] 9)) rfl (reads_str1 w7 (tx P)) (by intro u hu; rw [List.mem_singleton.1 hu]; rfl) (by unfold maxLen; omega) (by omega) ?_)
        intro v8 w8 h8 _
        have h8 : St w w8 (own 9 1 v8 (Ps ++ [P]).length ((Ps ++ [P]).map txv) * (own 35 1 (.slice a7 (R.length + 1) c7) (R ++ [(Value.slice a6 l6 c6, chg P)]).length ((R ++ [(Value.slice a6 l6 c6, chg P)]).map Prod.fst) * (rowsP (R ++ [(Value.slice a6 l6 c6, chg P)]) * Mz.old w))) := by
          rw [rowsP_snoc, List.length_append, List.length_append, List.map_append, List.map_append, ← HL6.out]
          exact h8.perm (by simp only [List.length_singleton, List.map_cons, List.map_nil]; ac_rfl)
        obtain ⟨a8, c8, rfl⟩ := h8.reads.sub
        have hs1 : (R ++ [(Value.slice a6 l6 c6, chg P)]).length = R.length + 1 := by simp
        have hs2 : (Ps ++ [P]).length = Ps.length + 1 := by simp
        have hs3 : (R ++ [(Value.slice a6 l6 c6, chg P)]).map Prod.snd = R.map Prod.snd ++ [chg P] := by simp
        rw [← hs1] at h8 ⊢
        have HS := Lib.hid (⟨hs1, hs2, hs3⟩ : _ ∧ _ ∧ _)
        clear hs1 hs2 hs3 H7
        have H8 := Lib.hid h8; clear h8
        generalize R ++ [(Value.slice a6 l6 c6, chg P)] = R2 at *
        generalize Ps ++ [P] = Ps2 at *
        go_wp2_with fail
        obtain ⟨g1, g2⟩ := HH.out
        obtain ⟨s1, s2, s3⟩ := HS.out
        have := HRK.out
        have := HPK.out
        exact ⟨⟨k + 1, Ps2, R2, a7, a8, c7, c8, by omega, by go_num, rfl, rfl, by omega, by omega, by omega, by rw [s3]; exact g2, g1, H8.out⟩, by simp [intOf]; omega⟩
    · obtain rfl : k = L.length := by omega
      by_cases hw1 : wid < 1
      · have hw1d : decide (wid < 1) = true := decide_eq_true hw1
        have HE := Lib.hid (encode_bad (width := wid) hst (fun w h => HT.out w h.right.right.right) (.slice ao R.length co) (by omega))
        clear hst hPs hRP hw0
        go_wp2_with fail
        refine HE.out.mono ?_
        rintro e w5 ⟨rfl, h5⟩
        have HF := Lib.hid (FIN.out _ h5.right.right.right); clear h5 HE
        go_wp2_with fail
        go_ret
        exact ⟨rfl, HF.out⟩
      · have hw1d : decide (wid < 1) = false := decide_eq_false hw1
        obtain ⟨width, rfl⟩ : ∃ width : Nat, wid = width := ⟨wid.toNat, by omega⟩
        have hPs3 : ∀ P ∈ Ps, P.length = width ∧ Bit P := fun P hP => by have := hPs P hP; exact ⟨by omega, this.2⟩
        have hro : ∀ x ∈ R, RowOk width x.2 := fun x hx => by
          have h1 : x.2 ∈ R.map Prod.snd := List.mem_map_of_mem hx
          rw [hRP] at h1
          obtain ⟨P, hP, e⟩ := List.mem_map.1 h1
          rw [← e]
          exact rowOk_chg (hPs3 P hP).1 (by omega)
        have HE := Lib.hid (encode_any (width := width) (F := own 9 1 (.slice at' Ps.length ct) Ps.length (Ps.map txv) * (own 35 1 (.slice ao R.length co) R.length (R.map Prod.fst) * (rowsP R * Mz.old w))) hst (fun w h => HT.out w h.right.right.right) (v := .slice ao R.length co) (fun w h => h.right.reads) (fun w h => rowsP_reads R _ h.right.right) (by omega) (by omega) hro (by omega))
        rw [hRP] at HE
        have HRE := Lib.hid (fun (w' : World) (G : SProp) (h : St w w' G) (hv : Stb w G (fun w => Reads w 1 (.slice at' Ps.length ct) Ps.length (Ps.map txv))) => rencode14_any h hv (by omega) hPs3 (by omega))
        have hl1 : (bytesB false (encF width (Ps.map chg) [])).length = ((encF width (Ps.map chg) []).length + 7) / 8 := length_bytesB _ _
        generalize encF width (Ps.map chg) [] = acc at *
        generalize bytesB false acc = B at *
        rw [← hl1] at HE
        have HL1 := Lib.hid hl1
        clear hst hPs hRP hw0 hro hPs3 hl1
        go_wp2_with fail
        refine HE.out.mono ?_
        rintro e w5 ⟨v5, rfl, h5⟩
        obtain ⟨a5, c5, rfl⟩ := h5.reads.sub
        have K := fun (W : World) (v : Value) (n : Nat) (bs : List UInt8) (hr : Reads W 1 v n (bs.map bv)) => run_b2s (P := Tryd.prog) Tryd.underlying22 Tryd.underlying5 Tryd.underlying9 hr
        have q0 := K _ _ _ _ h5.drew.reads
        have HK := Lib.hid K; clear K
        have HR2 := Lib.hid (HRE.out _ _ h5.drew (fun w' h => h.right.reads))
        clear HRE HE h5
        go_wp2_with fail
        go_upto_region 21 with (fail)
        go_region_with (go_at_call 15; refine HR2.out.mono ?_; rintro e w6 ⟨rfl, h6⟩; have q1 := HK.out _ _ _ _ h6.reads; have H6 := Lib.hid h6.right.right.right.right; clear h6)
        all_goals
          go_wp2_with fail
          go_ret
          exact ⟨rfl, FIN.out _ H6.out⟩
end Go.Proofs.YtljdohfdafnnaaaDoor.mpages
