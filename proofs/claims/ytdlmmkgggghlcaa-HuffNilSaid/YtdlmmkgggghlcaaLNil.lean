/-
  Layer 6: a nil book, places without words, and a nil writer.
-/
import Derived.Test.YtdlmmkgggghlcaaHufPl
import Derived.Test.YtdlmmkgggghlcaaHufV
namespace Go.Mz
open Go.RowKit
set_option linter.unusedVariables false
set_option linter.unusedSimpArgs false
theorem layS_dig {mean : Nat} {s : List UInt8} {N : List Nd} {a : Nat} (h : (layS mean N a s).2 = 0) : digB s = true := by
  induction s generalizing N a with
  | nil => rfl
  | cons c s ih =>
    rw [layS] at h
    by_cases hc : c ≠ 48 ∧ c ≠ 49
    · simp [hc] at h
    · have hd : c = 48 ∨ c = 49 := by
        by_cases h1 : c = 48
        · exact .inl h1
        · by_cases h2 : c = 49
          · exact .inr h2
          · exact absurd ⟨h1, h2⟩ hc
      have hs : digB s = true := by
        simp only [if_neg hc] at h
        split at h
        · simp at h
        · repeat' split at h
          all_goals exact ih h
      simp only [digB, List.all_cons, Bool.and_eq_true] at hs ⊢
      exact ⟨by simpa using hd, hs⟩
theorem lay_dig {mean : Nat} {s : List UInt8} {N : List Nd} (h : (lay N s mean).2 = 0) : digB s = true := by
  rw [lay] at h
  split at h
  · rename_i e; subst e; rfl
  · exact layS_dig h
end Go.Mz
namespace Go.Proofs.Ytdlmmkgggghlcaa.hnil
open Go.RowKit Go.Mz
set_option linter.unusedVariables false
set_option linter.unusedSimpArgs false
set_option maxRecDepth 100000

theorem layAll_dig {ws : List (List UInt8)} {N N' : List Nd} {k : Nat} (h : layAll N k ws = (N', 0)) : ∀ t ∈ ws, digB t = true := by
  induction ws generalizing N k with
  | nil => simp
  | cons t ws ih =>
    rw [layAll] at h
    split at h
    · rename_i e
      intro u hu
      rcases List.mem_cons.1 hu with rfl | hu
      · exact lay_dig e
      · exact ih h u hu
    · rename_i e
      exact absurd (Prod.mk.inj h).2 e

/-- A slice of strings that came in. -/
theorem strs_in {H : Type} {enc : TypeId × Value → H} {w : World} {base : Nat} {spare : Nat → Bool} {held : Bool} {fuel : Nat} {a : Option Addr} {len cap : Nat} {x : DataW H × List MemPlace}
    (h : DataW.trod enc Try.prog w base spare held fuel 24 (Value.slice a len cap).cells.toList = some x) :
    ∃ l : List (List UInt8), l.length = len ∧ Reads w 1 (.slice a len cap) len (l.map svB) ∧ True := by
  rcases Deep.open_slice Try.underlying24 h with ⟨h0, _⟩ | ⟨b, l, c, m, n, D, Pl, hcs, _, hl, hm, hmm, _, hi⟩
  · simp [Value.cells] at h0
    obtain ⟨rfl, rfl, rfl⟩ := h0
    exact ⟨[], rfl, ⟨rfl, .inl ⟨rfl, rfl⟩⟩, trivial⟩
  · simp [Value.cells] at hcs
    obtain ⟨rfl, rfl, rfl⟩ := hcs
    have hC : Try.prog.cellsOf 9 = 1 := by kernel_rfl
    obtain ⟨l, h1, h2, hx⟩ := reads_of_each (α := List UInt8) (fun b => [svB b]) (m := 1) (by decide) (fun _ => rfl) hl hm (fun _ => True) (fun i hil => by
      obtain ⟨cs, hc, ht⟩ := hi i (by rw [hmm]; split <;> omega)
      rw [hC] at hc
      obtain ⟨_, hlen, hat⟩ := World.cells?_some hc
      obtain ⟨s, rfl, _, _⟩ := DataW.trod_string Try.underlying9 ht
      refine ⟨s.data.toList, fun j u hu => ?_, trivial⟩
      cases j with
      | zero =>
        cases hu
        have := hat 0 (by decide)
        rw [Deep.add_add] at this
        exact this
      | succ j => simp at hu)
    have e : l.flatMap (fun b => [svB b]) = l.map svB := by
      clear h1 h2 hx
      induction l with
      | nil => rfl
      | cons x l ih => rw [List.flatMap_cons, ih]; rfl
    exact ⟨l, h1, e ▸ h2, trivial⟩

theorem wword_nil {w : World} (s : List UInt8) (hs : s.length ≤ 1000000000000) (hd : digB s = true) :
    Calls Try.prog 29 #[.pointer none, .string ⟨s.toArray⟩] w fun e w' => e = .returned (.int .i64 1) ∧ w' = w := by
  have HC := Lib.hid (show ∀ c ∈ s, c = 48 ∨ c = 49 by simpa [digB] using hd)
  clear hd
  go_enter Try.func29, Try.ntmps29
  go_wp2_with fail
  go_loop [9] (fun i => ∃ k : Nat, k ≤ s.length ∧ i = .int .i64 k) (fun i => s.length - (intOf i).toNat)
  case atStart => exact ⟨0, Nat.zero_le _, rfl⟩
  case round =>
    obtain ⟨k, hk, rfl⟩ := hrel
    by_cases hkn : k < s.length
    · have hg := List.getElem?_eq_getElem hkn
      have G := fun h => ba_get hg h; clear hg
      have hc := HC.out s[k] (by simp)
      generalize s[k] = c at *
      rcases hc with rfl | rfl
      all_goals
        go_wp2_with fail
        refine ⟨⟨k + 1, by omega, by go_num⟩, by simp [intOf]; omega⟩
    · obtain rfl : k = s.length := by omega
      go_wp2_with fail
      go_ret
      exact ⟨rfl, rfl⟩
theorem hwrite_nilw {w0 w : World} {F : SProp} {B : Nat} {N : List Nd} {ms : List Int} {ws : List (List UInt8)} (h : St w0 w (bookI B N ms ws * F)) (i : Int)
    (hd : digB (wAt ws i) = true) (hl : (wAt ws i).length ≤ 1000000) (hne : wAt ws i ≠ []) :
    Calls Try.prog 17 #[.pointer (some ⟨B, 0, none⟩), .pointer none, .int .i64 i] w fun e w' => e = .returned (.int .i64 1) ∧ w' = w := by
  have HW := Lib.hid (hword_anyI h i)
  have hi : 0 ≤ i ∧ i < ws.length := by
    apply Classical.byContradiction; intro hc; exact hne (by rw [wAt, if_neg hc])
  have e1 : wordR ws i = .tuple #[svB (wAt ws i), .int .i64 0] := by rw [wordR, wAt, if_pos hi, if_pos hi]
  rw [e1] at HW
  clear e1 h hi
  generalize wAt ws i = t at *
  have hn1 : ¬ (ByteArray.mk t.toArray).toList = [] := by rw [ByteArray.toList_eq]; exact hne
  have hn2 : (ByteArray.mk t.toArray).toList.isEmpty = false := by
    cases hq : (ByteArray.mk t.toArray).toList with
    | nil => exact absurd hq hn1
    | cons _ _ => rfl
  have C := Lib.hid (fun w => wword_nil (w := w) t (by omega) hd)
  clear hne
  unfold svB at HW
  generalize ByteArray.mk t.toArray = tb at *
  go_enter Try.func17, Try.ntmps17
  go_wp2_with fail
  refine HW.out.mono ?_
  rintro e w' ⟨rfl, rfl⟩
  go_wp2_with fail
  refine (C.out _).mono ?_
  rintro e w2 ⟨rfl, rfl⟩
  go_wp2_with fail
  go_ret
  exact ⟨rfl, rfl⟩

set_option maxHeartbeats 40000000 in
theorem walk (vb : Value) (ws : List (List UInt8)) (i : Int) (w : World) (hb : Reads w 1 vb ws.length (ws.map svB)) :
    Calls Try.prog 5 #[vb, .int .i64 i] w fun e w' => e = .returned (.bool true) ∧ Below w.heap.size w w' := by
  have HB := Lib.hid (Stb.of_old hb)
  obtain ⟨a1, c1, rfl⟩ := hb.sub
  have hm := hb.len_le
  unfold maxLen at hm
  clear hb
  have H := Lib.hid (St.init w)
  have fin : ∀ w', St w w' (Mz.old w) → Below w.heap.size w w' := fun w' h => (h.perm ((emp_star _).symm.trans (star_comm _ _))).below
  have FIN := Lib.hid fin; clear fin
  have CF := Lib.hid (fun w' (h : St w w' (Mz.old w)) => few_any (HB.out w' h))
  cases hfew : fewB ws
  · rw [hfew] at CF
    go_enter Try.func5, Try.ntmps5
    go_wp2_with fail
    refine (lives06 H.out).mono ?_
    rintro e w1 ⟨rfl, h2⟩
    have H2 := Lib.hid h2; clear h2
    go_wp2_with fail
    refine (CF.out _ H2.out).mono ?_
    rintro e w2 ⟨rfl, rfl⟩
    go_wp2_with fail
    refine (lives06 H2.out).mono ?_
    rintro e w3 ⟨rfl, h3⟩
    have H3 := Lib.hid h3; clear h3
    go_wp2_with fail
    go_ret
    exact ⟨rfl, FIN.out _ H3.out⟩
  rw [hfew] at CF
  rw [fewB, Bool.and_eq_true, List.all_eq_true] at hfew
  obtain ⟨hall, hlen⟩ := hfew
  have hlen2 : ws.length ≤ 60 := by simpa using hlen
  have HALL := Lib.hid (show ∀ t ∈ ws, t.length ≤ 60 from fun t ht => by simpa using hall t ht)
  clear hall hlen
  have T1 := elemBytes
  go_enter Try.func5, Try.ntmps5
  go_wp2_with fail
  refine (lives06 H.out).mono ?_
  rintro e w1 ⟨rfl, h2⟩
  have H2 := Lib.hid h2; clear h2
  go_wp2_with fail
  refine (CF.out _ H2.out).mono ?_
  rintro e w2 ⟨rfl, rfl⟩
  go_wp2_with fail
  refine (newReader_any (bs := [1]) (H2.out.lit #[.int .u8 1] 5 1 rfl (by decide)) Stb.of_own (by decide)).mono ?_
  rintro e w3 ⟨Rb, rfl, h3⟩
  have H3 := Lib.hid h3.right.right; clear h3
  go_wp2_with fail
  refine (hread_nilI _).mono ?_
  rintro e w4 ⟨rfl, rfl⟩
  go_wp2_with fail
  refine (hword_nilI _).mono ?_
  rintro e w4 ⟨rfl, rfl⟩
  go_wp2_with fail
  refine (newWriter_any H3.out).mono ?_
  rintro e w5 ⟨W, rfl, h5⟩
  have H5 := Lib.hid h5; clear h5
  go_wp2_with fail
  refine hlen_nilI.mono ?_
  rintro e w4 ⟨rfl, rfl⟩
  go_wp2_with fail
  refine (hwrite_nilI _ _).mono ?_
  rintro e w4 ⟨rfl, rfl⟩
  go_wp2_with fail
  refine (places_any H5.out ws.length (by omega)).mono ?_
  rintro e w6 ⟨vp, rfl, h6⟩
  obtain ⟨a6, c6, rfl⟩ := h6.reads.sub
  obtain ⟨N, er, hN⟩ : ∃ N er, layAll [nd0] 0 ws = (N, er) := ⟨_, _, rfl⟩
  have C := new_anyI h6 ws (upto ws.length) (length_upto _) (by omega) (fun i t ht => by have := HALL.out t (List.mem_of_getElem? ht); omega) (vw := .slice a1 ws.length c1) (vm := .slice a6 ws.length c6) (fun w h => HB.out w h.right.right) (by rw [length_upto]; exact Stb.of_own) hN
  have HC := Lib.hid C; clear C h6
  go_wp2_with fail
  refine HC.out.mono ?_
  rintro e w7 ⟨hok, hbad⟩
  by_cases her : er = 0
  · subst her
    obtain ⟨B, rfl, h7, hNok⟩ := hok rfl
    have hdig := layAll_dig hN
    have hwd : digB (wAt ws i) = true := by
      rw [wAt]; split
      · rename_i h
        rw [List.getD_eq_getElem?_getD, List.getElem?_eq_getElem (by omega)]
        exact hdig _ (List.getElem_mem _)
      · rfl
    have hwl : (wAt ws i).length ≤ 60 := by
      rw [wAt]; split
      · rename_i h
        rw [List.getD_eq_getElem?_getD, List.getElem?_eq_getElem (by omega)]
        exact HALL.out _ (List.getElem_mem _)
      · simp
    have h8 := h7.perm (show _ = bookI B N (upto ws.length) ws * (wrt W [] false * (own 3 1 (.slice a6 ws.length c6) ws.length ((upto ws.length).map iv) * Mz.old w)) by ac_rfl)
    have C := Lib.hid (hwrite_anyI h8 i hwd (by omega) (by simp))
    clear hok hbad h7 h8 HC hdig
    go_wp2_with fail
    refine C.out.mono ?_
    rintro e w8 ⟨rfl, h9⟩
    have H9 := Lib.hid h9; clear h9 C
    by_cases hi0 : i < 0
    · have e1 : wAt ws i = [] := by rw [wAt, if_neg (by omega)]
      rw [e1]
      clear hwd hwl e1
      have hi1 : ¬ 0 ≤ i := by omega
      go_upto_region 14 with (fail)
      go_quiet (fail)
      have h10 := H9.out.drewN nq
      generalize w8.drewN nq = w10 at *
      have H10 := Lib.hid h10; clear h10
      go_wp2_with fail
      go_ret
      exact ⟨rfl, FIN.out _ H10.out.right.right.right⟩
    obtain ⟨k, rfl⟩ : ∃ k : Nat, i = k := ⟨i.toNat, by omega⟩
    by_cases hk : k < ws.length
    · obtain ⟨g, o, rfl, e⟩ := (HB.out w8 H9.out.right.right.right).at_ hk
      have hx := List.getElem?_eq_getElem hk
      have ew : wAt ws k = ws[k] := by rw [wAt, if_pos (by omega), Int.toNat_natCast, List.getD_eq_getElem?_getD, hx]; rfl
      rw [List.getElem?_map, hx] at e
      simp only [Option.map_some, svB] at e
      have HWN := Lib.hid (fun (w' : World) (h : St w w' (bookI B N (upto ws.length) ws * (wrt W (unTx (wAt ws k)) false * (own 3 1 (.slice a6 ws.length c6) ws.length ((upto ws.length).map iv) * Mz.old w)))) (hne : wAt ws k ≠ []) => hwrite_nilw h k hwd (by omega) hne)
      have HWL := Lib.hid (fun (w' : World) (h : St w w' (bookI B N (upto ws.length) ws * (wrt W (unTx (wAt ws k)) false * (own 3 1 (.slice a6 ws.length c6) ws.length ((upto ws.length).map iv) * Mz.old w)))) => (len_any (h.perm (star_left_comm _ _ _))).mono fun e w'' h => (⟨h.1, h.2.symm⟩ : e = .returned (.int .i64 ((unTx (wAt ws k)).length : Nat)) ∧ w'' = w'))
      rw [List.nil_append] at H9
      rw [ew] at HWN HWL H9 hwl ⊢
      clear ew hwd hx
      have hsz : (ByteArray.mk (ws[k]).toArray).size = (ws[k]).length := rfl
      have hul : (unTx ws[k]).length = ws[k].length := length_unTx _
      have hem : (ByteArray.mk (ws[k]).toArray).toList = ws[k] := by rw [ByteArray.toList_eq]
      generalize ws[k] = t at *
      have hk2 : (k : Int) < ws.length := by omega
      by_cases ht : t = []
      · subst ht
        have hd1 : ¬ (0 : Int) ≤ -1 := by omega
        generalize ByteArray.mk ([] : List UInt8).toArray = tb at *
        rw [if_pos rfl]
        clear HWN HWL hul
        go_upto_region 14 with (fail)
        go_quiet (fail)
        have h10 := H9.out.drewN nq
        generalize w8.drewN nq = w10 at *
        have H10 := Lib.hid h10; clear h10
        go_wp2_with fail
        go_ret
        exact ⟨rfl, FIN.out _ H10.out.right.right.right⟩
      · rw [if_neg ht]
        have hne : ¬ (ByteArray.mk t.toArray).toList = [] := by rw [hem]; exact ht
        have hne2 : (ByteArray.mk t.toArray).toList.isEmpty = false := by
          cases hq : (ByteArray.mk t.toArray).toList with
          | nil => exact absurd hq hne
          | cons _ _ => rfl
        rw [hul] at HWL
        have HQ1 := Lib.hid (fun n => Calls.quiet_of_same (HWL.out _ (H9.out.drewN n)))
        have HQ2 := Lib.hid (fun n => Calls.quiet_of_same (HWN.out _ (H9.out.drewN n) ht))
        clear ht hem HWN HWL hul
        generalize ByteArray.mk t.toArray = tb at *
        go_upto_region 14 with (fail)
        go_quiet (first | (go_at_call 20; exact HQ1.out _) | (go_at_call 17; exact HQ2.out _))
        have h10 := H9.out.drewN nq
        generalize w8.drewN nq = w10 at *
        have H10 := Lib.hid h10; clear h10
        go_wp2_with fail
        go_ret
        exact ⟨rfl, FIN.out _ H10.out.right.right.right⟩
    · have e1 : wAt ws k = [] := by rw [wAt, if_neg (by omega)]
      rw [e1]
      clear hwd hwl e1
      have hk2 : ¬ (k : Int) < ws.length := by omega
      go_upto_region 14 with (fail)
      go_quiet (fail)
      have h10 := H9.out.drewN nq
      generalize w8.drewN nq = w10 at *
      have H10 := Lib.hid h10; clear h10
      go_wp2_with fail
      go_ret
      exact ⟨rfl, FIN.out _ H10.out.right.right.right⟩
  · obtain ⟨rfl, h7⟩ := hbad her
    have her2 : ¬ (er : Int) = 0 := by omega
    have H7 := Lib.hid h7; clear h7 hok hbad HC
    go_wp2_with fail
    go_ret
    exact ⟨rfl, FIN.out _ H7.out.right.right⟩
#print axioms walk
end Go.Proofs.Ytdlmmkgggghlcaa.hnil
