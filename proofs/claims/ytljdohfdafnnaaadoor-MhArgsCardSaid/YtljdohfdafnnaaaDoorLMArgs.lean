/-
  Layer 14: widths, and changes, that can't be, and what is nil.
-/
import Derived.Test.YtljdohfdafnnaaaDoorMhN
import Derived.Test.YtljdohfdafnnaaaDoorMhB
import Derived.Test.YtljdohfdafnnaaaDoorMhV
namespace Go.Proofs.YtljdohfdafnnaaaDoor.margs
open Go.RowKit Go.Mz
set_option linter.unusedVariables false
set_option linter.unusedSimpArgs false
set_option maxRecDepth 100000

def okB (width : Int) : Bool := decide (1 ≤ width ∧ width ≤ 32768)
theorem okB_iff {width : Int} : okB width = true ↔ okW width := by simp [okB, okW]

theorem rdW_nil (b : Bool) : rdW (faxW b) [] [] = (0, .inr 2) := by cases b <;> decide +kernel
theorem rdM_nil : rdW modW [] [] = (0, .inr 2) := by decide +kernel
theorem readRow_nil (width : Nat) : readRow [] width 0 = (0, .inr 2) := by
  rw [readRow]
  show rdRow [] width 1 0 [] false = _
  rw [rdRow]
  have e : readL false [] ((width - ([] : List Nat).length : Nat) : Int) 0 = (0, .inr 2) := by
    rw [readL]
    show readFx (faxW false) [] _ 1 0 0 = _
    rw [readFx, List.drop_nil, rdW_nil]
  rw [e]
theorem readAg_nil (top : List Nat) (width : Nat) : readAg [] top width 0 = (0, .inr 2) := by
  rw [readAg]
  show rdAg [] top width 1 0 [] false (-1) = _
  rw [rdAg, if_pos (by omega), stepAg]
  have e : readMd [] 0 = (0, .inr 2) := by
    rw [readMd, List.drop_nil, rdM_nil]
  rw [e]

theorem wrow_all {w0 w : World} {F : SProp} {C Wb : Nat} {acc : List Nat} (h : St w0 w (codes C * (wrt Wb acc false * F))) {l : List Int} {v : Value} (width : Int) (hr : Stb w0 F (fun w => Reads w 1 v l.length (l.map iv))) (hl : l.length ≤ 60) (hm : acc.length ≤ 100000000) :
    Calls Tryd.prog 18 #[.pointer (some ⟨Wb, 0, none⟩), .pointer (some ⟨C, 0, none⟩), v, .int .i64 width] w fun e w' => e = .returned (.int .i64 (cond (okB width && rightI (-1) width l) 0 1)) ∧ ∃ acc', acc'.length ≤ acc.length + 100000 ∧ St w0 w' (codes C * (wrt Wb acc' false * F)) := by
  cases ho : okB width with
  | false =>
    refine (writeRow_wide Wb C v (fun hk => by rw [okB_iff.2 hk] at ho; cases ho)).mono ?_
    rintro e w' ⟨rfl, rfl⟩
    exact ⟨rfl, acc, by omega, h⟩
  | true =>
    have hk := okB_iff.1 ho
    cases hR : rightI (-1) width l with
    | false =>
      refine (writeRow_wrong Wb C (hr w h.right.right) hk hR).mono ?_
      rintro e w' ⟨rfl, rfl⟩
      exact ⟨rfl, acc, by omega, h⟩
    | true =>
      obtain ⟨m, rfl, hp, hb⟩ := nat_right l (-1) width (by omega) hR
      obtain ⟨W, rfl⟩ : ∃ W : Nat, width = W := ⟨width.toNat, by have := hk.1; omega⟩
      have h1 := hk.1; have h2 := hk.2
      have hb' : ∀ x ∈ m, x < W := fun x hx => by have := (hb x hx).2; omega
      have hr' : Stb w0 F (fun w => Reads w 1 v m.length (m.map nv)) := fun w h => by
        have := hr w h
        rw [map_nv, List.length_map] at this; exact this
      rw [List.length_map] at hl
      refine (writeRow_any h hr' hp hb' (by omega) (by omega) (by omega) (by omega)).mono ?_
      rintro e w' ⟨rfl, h'⟩
      refine ⟨rfl, _, ?_, h'⟩
      have := rowB_len (lensF 0 m W) false (fun x hx => by have := lensF_le m W 0 hb' x hx; omega)
      rw [lensF_len] at this
      rw [List.length_append]; omega
theorem wag_all {w0 w : World} {F : SProp} {C Wb : Nat} {acc : List Nat} (h : St w0 w (codes C * (wrt Wb acc false * F))) {l k : List Int} {v u : Value} (width : Int) (hr : Stb w0 F (fun w => Reads w 1 v l.length (l.map iv))) (hu : Stb w0 F (fun w => Reads w 1 u k.length (k.map iv))) (hl : l.length ≤ 60) (hk60 : k.length ≤ 60) (hm : acc.length ≤ 200000000) :
    Calls Tryd.prog 19 #[.pointer (some ⟨Wb, 0, none⟩), .pointer (some ⟨C, 0, none⟩), v, u, .int .i64 width] w fun e w' => e = .returned (.int .i64 (cond (okB width && (rightI (-1) width l && rightI (-1) width k)) 0 1)) ∧ ∃ acc', St w0 w' (codes C * (wrt Wb acc' false * F)) := by
  cases hA : (okB width && (rightI (-1) width l && rightI (-1) width k)) with
  | false =>
    refine (writeAg_bad Wb C (hr w h.right.right) (hu w h.right.right) (fun hk => by rw [okB_iff.2 hk.1, hk.2.1, hk.2.2] at hA; cases hA)).mono ?_
    rintro e w' ⟨rfl, rfl⟩
    exact ⟨rfl, acc, h⟩
  | true =>
    simp only [Bool.and_eq_true] at hA
    obtain ⟨ho, hR, hT⟩ := hA
    have hk := okB_iff.1 ho
    obtain ⟨m, rfl, hp, hb⟩ := nat_right l (-1) width (by omega) hR
    obtain ⟨n, rfl, hp2, hb2⟩ := nat_right k (-1) width (by omega) hT
    obtain ⟨W, rfl⟩ : ∃ W : Nat, width = W := ⟨width.toNat, by have := hk.1; omega⟩
    have h1 := hk.1; have h2 := hk.2
    have hb' : ∀ x ∈ m, x < W := fun x hx => by have := (hb x hx).2; omega
    have hb2' : ∀ x ∈ n, x < W := fun x hx => by have := (hb2 x hx).2; omega
    have hr' : Stb w0 F (fun w => Reads w 1 v m.length (m.map nv)) := fun w h => by
      have := hr w h
      rw [map_nv, List.length_map] at this; exact this
    have hu' : Stb w0 F (fun w => Reads w 1 u n.length (n.map nv)) := fun w h => by
      have := hu w h
      rw [map_nv, List.length_map] at this; exact this
    rw [List.length_map] at hl hk60
    refine (writeAgainst_any h hr' hu' hp hb' hp2 hb2' (by omega) (by omega) (by omega) (by omega) (by omega)).mono ?_
    rintro e w' ⟨rfl, h'⟩
    exact ⟨rfl, _, h'⟩
theorem rrow_all {w0 w : World} {F : SProp} {C Rb : Nat} (h : St w0 w (codes C * (rdr Rb [] 0 false * F))) (width : Int) :
    Calls Tryd.prog 27 #[.pointer (some ⟨Rb, 0, none⟩), .pointer (some ⟨C, 0, none⟩), .int .i64 width] w fun e w' => ∃ v, e = .returned (.tuple #[v, .int .i64 (cond (okB width) 2 1)]) ∧ St w0 w' (codes C * (rdr Rb [] 0 false * F)) := by
  cases ho : okB width with
  | false =>
    refine (readRow_bad Rb C (fun hk => by rw [okB_iff.2 hk] at ho; cases ho)).mono ?_
    rintro e w' ⟨rfl, rfl⟩
    exact ⟨_, rfl, h⟩
  | true =>
    have hk := okB_iff.1 ho
    obtain ⟨W, rfl⟩ : ∃ W : Nat, width = W := ⟨width.toNat, by have := hk.1; omega⟩
    have h1 := hk.1; have h2 := hk.2
    have C1 := readRow_any h (width := W) (by omega) (by omega) (by decide) (by decide)
    have e : bitsL false [] = [] := rfl
    rw [e, readRow_nil] at C1
    refine C1.mono ?_
    rintro e w' ⟨v, rfl, h'⟩
    exact ⟨v, rfl, h'.right⟩
theorem rag_all {w0 w : World} {F : SProp} {C Rb : Nat} (h : St w0 w (codes C * (rdr Rb [] 0 false * F))) {k : List Int} {u : Value} (width : Int) (hu : Stb w0 F (fun w => Reads w 1 u k.length (k.map iv))) (hk60 : k.length ≤ 60) :
    Calls Tryd.prog 31 #[.pointer (some ⟨Rb, 0, none⟩), .pointer (some ⟨C, 0, none⟩), u, .int .i64 width] w fun e w' => ∃ v, e = .returned (.tuple #[v, .int .i64 (cond (okB width && rightI (-1) width k) 2 1)]) ∧ St w0 w' (codes C * (rdr Rb [] 0 false * F)) := by
  cases hA : (okB width && rightI (-1) width k) with
  | false =>
    refine (readAg_bad Rb C (hu w h.right.right) (fun hk => by rw [okB_iff.2 hk.1, hk.2] at hA; cases hA)).mono ?_
    rintro e w' ⟨rfl, rfl⟩
    exact ⟨_, rfl, h⟩
  | true =>
    simp only [Bool.and_eq_true] at hA
    obtain ⟨ho, hT⟩ := hA
    have hk := okB_iff.1 ho
    obtain ⟨n, rfl, hp2, hb2⟩ := nat_right k (-1) width (by omega) hT
    obtain ⟨W, rfl⟩ : ∃ W : Nat, width = W := ⟨width.toNat, by have := hk.1; omega⟩
    have h1 := hk.1; have h2 := hk.2
    have hb2' : ∀ x ∈ n, x < W := fun x hx => by have := (hb2 x hx).2; omega
    have hu' : Stb w0 F (fun w => Reads w 1 u n.length (n.map nv)) := fun w h => by
      have := hu w h
      rw [map_nv, List.length_map] at this; exact this
    rw [List.length_map] at hk60
    have C1 := readAgainst_any h hu' hp2 hb2' (by omega) (by omega) (by omega) (by decide) (by decide)
    have e : bitsL false [] = [] := rfl
    rw [e, readAg_nil] at C1
    refine C1.mono ?_
    rintro e w' ⟨v, rfl, h'⟩
    exact ⟨v, rfl, h'.right⟩

/-- A slice of numbers that came in. -/
theorem ints_in {H : Type} {enc : TypeId × Value → H} {w : World} {base : Nat} {spare : Nat → Bool} {held : Bool} {fuel : Nat} {a : Option Addr} {len cap : Nat} {x : DataW H × List MemPlace}
    (h : DataW.trod enc Tryd.prog w base spare held fuel 35 (Value.slice a len cap).cells.toList = some x) :
    ∃ l : List Int, l.length = len ∧ Reads w 1 (.slice a len cap) len (l.map iv) ∧ True := by
  rcases Deep.open_slice Tryd.underlying35 h with ⟨h0, _⟩ | ⟨b, l, c, m, n, D, Pl, hcs, _, hl, hm, hmm, _, hi⟩
  · simp [Value.cells] at h0
    obtain ⟨rfl, rfl, rfl⟩ := h0
    exact ⟨[], rfl, ⟨rfl, .inl ⟨rfl, rfl⟩⟩, trivial⟩
  · simp [Value.cells] at hcs
    obtain ⟨rfl, rfl, rfl⟩ := hcs
    have hC : Tryd.prog.cellsOf 3 = 1 := by kernel_rfl
    obtain ⟨l, h1, h2, hx⟩ := reads_of_each (α := Int) (fun b => [iv b]) (m := 1) (by decide) (fun _ => rfl) hl hm (fun x => True) (fun i hil => by
      obtain ⟨cs, hc, ht⟩ := hi i (by rw [hmm]; split <;> omega)
      rw [hC] at hc
      obtain ⟨_, hlen, hat⟩ := World.cells?_some hc
      obtain ⟨z, rfl, _, hw⟩ := DataW.trod_int Tryd.underlying3 ht
      refine ⟨z, fun j u hu => ?_, trivial⟩
      cases j with
      | zero =>
        cases hu
        have := hat 0 (by decide)
        rw [Deep.add_add] at this
        exact this
      | succ j => simp at hu)
    have e : l.flatMap (fun b => [iv b]) = l.map iv := by
      clear h1 h2 hx
      induction l with
      | nil => rfl
      | cons b l ih => rw [List.flatMap_cons, ih]; rfl
    rw [e] at h2
    exact ⟨l, h1, h2, trivial⟩

set_option maxHeartbeats 40000000 in
theorem walk (vl : Value) (l : List Int) (vk : Value) (k : List Int) (width : Int) (w : World) (hl : Reads w 1 vl l.length (l.map iv)) (hk : Reads w 1 vk k.length (k.map iv)) (htab : Lib.TabIs Tryd.prog w "strings.asciiSpace" .u8 Lib.asciiSpaceTab) :
    Calls Tryd.prog 6 #[vl, vk, .int .i64 width] w fun e w' => e = .returned (.bool true) ∧ Below w.heap.size w w' := by
  have HT := Lib.hid (tab_old htab); clear htab
  have HLL := Lib.hid (Stb.of_old hl)
  have HKK := Lib.hid (Stb.of_old hk)
  obtain ⟨a0, c0, rfl⟩ := hl.sub
  obtain ⟨a1, c1, rfl⟩ := hk.sub
  have hm := hl.len_le
  unfold maxLen at hm
  have hm1 := hk.len_le
  unfold maxLen at hm1
  clear hl hk
  have H := Lib.hid (St.init w)
  have fin : ∀ w', St w w' (Mz.old w) → Below w.heap.size w w' := fun w' h => (h.perm ((emp_star _).symm.trans (star_comm _ _))).below
  have FIN := Lib.hid fin; clear fin
  go_enter Tryd.func6, Tryd.ntmps6
  go_wp2_with fail
  refine (lives14 H.out HT.out).mono ?_
  rintro e w1 ⟨rfl, h2⟩
  have H2 := Lib.hid h2; clear h2
  by_cases hbad : 60 < l.length ∨ 60 < k.length
  · have hd : (60 : Int) < l.length ∨ (¬ (60 : Int) < l.length ∧ (60 : Int) < k.length) := by omega
    clear hbad
    rcases hd with h1 | ⟨h1, h2⟩
    · go_wp2_with fail
      refine (lives14 H2.out HT.out).mono ?_
      rintro e w2 ⟨rfl, h3⟩
      have H3 := Lib.hid h3; clear h3
      go_wp2_with fail
      go_ret
      exact ⟨rfl, FIN.out _ H3.out⟩
    · have h1d : decide ((60 : Int) < l.length) = false := decide_eq_false h1
      go_wp2_with fail
      refine (lives14 H2.out HT.out).mono ?_
      rintro e w2 ⟨rfl, h3⟩
      have H3 := Lib.hid h3; clear h3
      go_wp2_with fail
      go_ret
      exact ⟨rfl, FIN.out _ H3.out⟩
  have h1 : ¬ (60 : Int) < l.length := by omega
  have h2 : ¬ (60 : Int) < k.length := by omega
  have h1d : decide ((60 : Int) < l.length) = false := decide_eq_false h1
  have h2d : decide ((60 : Int) < k.length) = false := decide_eq_false h2
  have hl6 : l.length ≤ 60 := by omega
  have hk6 : k.length ≤ 60 := by omega
  clear hbad
  go_wp2_with fail
  refine (newCodes_any H2.out HT.out).mono ?_
  rintro e w2 ⟨C, rfl, h3⟩
  have H3 := Lib.hid h3; clear h3 H2
  go_wp2_with fail
  refine (newWriter_any (low := false) H3.out).mono ?_
  rintro e w3 ⟨Wb, rfl, h4⟩
  have h4 := h4.perm (star_left_comm _ _ _)
  have hsome : (1 ≤ width ∧ (32768 < width ∨ ¬ 32768 < width)) ∨ ¬ 1 ≤ width := by omega
  have H4 := Lib.hid h4
  clear h4 H3
  have HR1 := Lib.hid (fun w' (h : St w w' (codes C * (wrt Wb [] false * Mz.old w))) => rright_any width (HLL.out w' h.right.right))
  have HR2 := Lib.hid (fun w' (h : St w w' (codes C * (wrt Wb [] false * Mz.old w))) => rright_any width (HKK.out w' h.right.right))
  have HW1 := Lib.hid (fun w' (h : St w w' (codes C * (wrt Wb [] false * Mz.old w))) => wrow_all h width (hr := HLL.out) hl6 (by simp))
  have HW2 := Lib.hid (fun w' acc (hm : acc.length ≤ 200000000) (h : St w w' (codes C * (wrt Wb acc false * Mz.old w))) => wag_all h width HLL.out HKK.out hl6 hk6 hm)
  have HRR := Lib.hid (fun w' Rb (F : SProp) (h : St w w' (codes C * (rdr Rb [] 0 false * F))) => rrow_all h width)
  have HRA := Lib.hid (fun w' Rb (F : SProp) (h : St w w' (codes C * (rdr Rb [] 0 false * F))) (hu : Stb w F (fun w => Reads w 1 (.slice a1 k.length c1) k.length (k.map iv))) => rag_all h width hu hk6)
  have HNW := Lib.hid (fun w' => writeRow_nilw (w := w') (.pointer (some ⟨C, 0, none⟩)) (.slice a0 l.length c0) width)
  have HNC := Lib.hid (fun w' => writeRow_nilc (w := w') Wb (.slice a0 l.length c0) width)
  have HAW := Lib.hid (fun w' => writeAg_nilw (w := w') (.pointer (some ⟨C, 0, none⟩)) (.slice a0 l.length c0) (.slice a1 k.length c1) width)
  have HAC := Lib.hid (fun w' => writeAg_nilc (w := w') Wb (.slice a0 l.length c0) (.slice a1 k.length c1) width)
  obtain ⟨s, hs⟩ : ∃ s, s = okB width := ⟨_, rfl⟩
  rw [← hs] at HW1 HW2 HRR HRA
  have HSS := Lib.hid hs
  clear hs
  generalize rightI (-1) width l = r at *
  generalize rightI (-1) width k = t at *
  clear h1 h2 h1d h2d hm hm1 HLL
  go_upto_region 5 with (fail)
  go_cut [9] from 33 (fun v wx => v = .bool s ∧ wx = w3)
  case first =>
    have hs := HSS.out
    clear HSS
    rcases hsome with ⟨h1, h2 | h2⟩ | h1
    · have e : okB width = false := decide_eq_false (by omega)
      rw [e] at hs
      subst hs
      have h1d : decide (1 ≤ width) = true := decide_eq_true h1
      go_wp2_with fail
      go_meet
      exact ⟨(by first | rfl | (rw [decide_eq_false (by omega)])), rfl⟩
    · have e : okB width = true := decide_eq_true (by omega)
      rw [e] at hs
      subst hs
      have h1d : decide (1 ≤ width) = true := decide_eq_true h1
      go_wp2_with fail
      go_meet
      exact ⟨(by first | rfl | (rw [decide_eq_true (by omega)])), rfl⟩
    · have e : okB width = false := decide_eq_false (by omega)
      rw [e] at hs
      subst hs
      have h1d : decide (1 ≤ width) = false := decide_eq_false (by omega)
      go_wp2_with fail
      go_meet
      exact ⟨(by first | rfl | (rw [decide_eq_false (by omega)])), rfl⟩
  case rest =>
    obtain ⟨rfl, rfl⟩ := hcut
    clear hsome HSS
    go_wp2_with fail
    refine (HR1.out _ H4.out).mono ?_
    rintro e w4 ⟨rfl, n4, rfl⟩
    have H5 := Lib.hid (H4.out.drewN n4); clear H4
    go_wp2_with fail
    refine (HR2.out _ H5.out).mono ?_
    rintro e w5 ⟨rfl, n5, rfl⟩
    have H6 := Lib.hid (H5.out.drewN n5); clear H5 HR1 HR2
    generalize (World.drewN (World.drewN _ n4) n5) = w6 at *
    go_wp2_with fail
    refine (HW1.out _ H6.out).mono ?_
    rintro e w7 ⟨rfl, acc, hacc, h7⟩
    have hacc9 : acc.length ≤ 200000000 := by simp at hacc; omega
    clear hacc
    have H7 := Lib.hid (HW2.out _ acc hacc9 h7); clear h7 H6 HW1 HW2 hacc9
    go_wp2_with fail
    refine H7.out.mono ?_
    rintro e w8 ⟨rfl, acc2, h8⟩
    have hnil : ∀ w', Reads w' 1 (.slice none 0 0) ([] : List UInt8).length (([] : List UInt8).map bv) := fun w' => ⟨rfl, .inl ⟨rfl, rfl⟩⟩
    have HNR := Lib.hid (fun (w' : World) (F : SProp) (h : St w w' F) => newReader_any (low := false) (bs := []) h (fun w' _ => hnil w') (by decide))
    clear hnil
    have H8 := Lib.hid h8; clear h8 H7
    go_wp2_with fail
    refine (HNR.out _ _ H8.out).mono ?_
    rintro e w9 ⟨Ra, rfl, h9⟩
    have H9 := Lib.hid (h9.perm (star_left_comm _ _ _)); clear h9 H8
    go_wp2_with fail
    refine (HRR.out _ _ _ H9.out).mono ?_
    rintro e w10 ⟨v10, rfl, h10⟩
    have H10 := Lib.hid h10; clear h10 H9 HRR
    go_wp2_with fail
    refine (HNR.out _ _ H10.out).mono ?_
    rintro e w11 ⟨Rb, rfl, h11⟩
    have h11 := h11.perm (show _ = codes C * (rdr Rb [] 0 false * (rdr Ra [] 0 false * (wrt Wb acc2 false * Mz.old w))) by ac_rfl)
    have H11 := Lib.hid (HRA.out _ _ _ h11 (fun w' h => HKK.out w' h.right.right)); clear h11 H10 HNR HRA HKK
    go_wp2_with fail
    refine H11.out.mono ?_
    rintro e w12 ⟨v12, rfl, h12⟩
    have H12 := Lib.hid (FIN.out _ h12.right.right.right.right); clear h12 H11 FIN
    cases s <;> cases r <;> cases t <;> (
      simp only [Bool.false_and, Bool.true_and, cond_true, cond_false]
      go_wp2_with fail
      refine (HNW.out _).mono ?_
      rintro e w13 ⟨rfl, rfl⟩
      go_wp2_with fail
      refine (HNC.out _).mono ?_
      rintro e w13 ⟨rfl, rfl⟩
      go_wp2_with fail
      refine (HAW.out _).mono ?_
      rintro e w13 ⟨rfl, rfl⟩
      go_wp2_with fail
      refine (HAC.out _).mono ?_
      rintro e w13 ⟨rfl, rfl⟩
      go_wp2_with fail
      go_ret
      exact ⟨rfl, H12.out⟩)
#print axioms walk
end Go.Proofs.YtljdohfdafnnaaaDoor.margs
