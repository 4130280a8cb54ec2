/-
  Layer 11 (zlib): bytes wrapped, and a wrapping opened (package zlib).
-/
import Derived.Test.YtddifndfppilkaaAdl
import Derived.Test.YtddifndfppilkaaInfL
import Derived.Test.YtddifndfppilkaaDefN
import Derived.BigQuiet
namespace Go.Proofs.Ytddifndfppilkaa
open Go.RowKit Go.Mz
set_option linter.unusedVariables false
set_option linter.unusedSimpArgs false
set_option maxRecDepth 100000

/-- Two bytes that don't begin a wrapping. -/
def zheadB (x y : Nat) : Bool := x % 16 != 8 || decide (7 < x / 16) || ((x * 256 + y) % 31 != 0) || (y / 32 % 2 == 1)
def zrest (r : List UInt8) (most : Int) : Nat ⊕ (List UInt8 × Nat) :=
  match inflI r most with
  | .inl e => .inl e
  | .inr (o, n) => if r.length < n + 4 then .inl 2 else if numH ((r.drop n).take 4) ≠ adlerN o then .inl 4 else .inr (o, n + 6)
/-- What a wrapping stands for. -/
def zopen (bs : List UInt8) (most : Int) : Nat ⊕ (List UInt8 × Nat) :=
  if most < 0 then .inl 1
  else match bs with
    | x :: y :: r => if zheadB x.toNat y.toNat then .inl 3 else zrest r most
    | _ => .inl 2
theorem and15 (x : Nat) (h : x < 256) : bits .and .u8 (x : Int) 15 = ((x % 16 : Nat) : Int) := by
  have := u8_and_nat x 15 h (by decide)
  rw [show x &&& 15 = x % 16 from Nat.and_two_pow_sub_one_eq_mod x 4] at this
  exact this
theorem and32 (x : Nat) (h : x < 256) : bits .and .u8 (x : Int) 32 = ((x / 32 % 2 * 32 : Nat) : Int) := by
  have := u8_and_nat x 32 h (by decide)
  have e : x &&& 32 = x / 32 % 2 * 32 := by
    have key : ∀ y : Fin 256, y.val &&& 32 = y.val / 32 % 2 * 32 := by decide
    exact key ⟨x, h⟩
  rw [e] at this
  exact this
theorem or_true4 {a b c d : Bool} (h : (a || b || c || d) = true) : a = true ∨ (a = false ∧ b = true) ∨ (a = false ∧ b = false ∧ c = true) ∨ (a = false ∧ b = false ∧ c = false ∧ d = true) := by
  cases a <;> cases b <;> cases c <;> cases d <;> simp_all
theorem star_z1 (A B C D : SProp) : A * (B * (C * D)) = B * (A * (C * D)) := by ac_rfl
set_option maxHeartbeats 40000000 in
theorem pack_any {w0 w : World} {F : SProp} (h : St w0 w F) {b : List UInt8} (hb : b.length ≤ 1000000) {v : Value} (hv : Stb w0 F (fun w => Reads w 1 v b.length (b.map bv))) {how : Nat} (hh : how ≤ 2) :
    Calls Try.prog 16 #[v, .int .i64 (how : Int)] w fun e w' => ∃ v' x z, e = .returned (.tuple #[v', .int .i64 0]) ∧ DefS b how x ∧ x.length ≤ 100000000 ∧ z = (120 : UInt8) :: 1 :: (bytesB true x ++ bytesO true (adlerN b) 4) ∧ St w0 w' (own 5 1 v' z.length (z.map bv) * F) := by
  have HD := Lib.hid (deflate_any h hb hv hh)
  have HV := Lib.hid hv
  clear h hv hh
  have T := elemBytes
  go_enter Try.func16, Try.ntmps16
  go_wp2_with (go_at_call 11; apply stop)
  refine on ?_
  refine HD.out.mono ?_
  rintro e w2 ⟨v2, x, rfl, hx, hxl, h2⟩
  have hXl := length_bytesB true x
  obtain ⟨X, hX⟩ : ∃ X, bytesB true x = X := ⟨_, rfl⟩
  rw [hX] at h2 hXl
  rw [← hXl] at h2
  have hXm : X.length ≤ 20000000 := by rw [hXl]; omega
  obtain ⟨nX, hnX⟩ : ∃ nX, X.length = nX := ⟨_, rfl⟩
  rw [hnX] at h2 hXm
  obtain ⟨a2, c2, rfl⟩ := h2.reads.sub
  have H2 := Lib.hid h2
  have HX := Lib.hid hx; have HNX := Lib.hid hnX; have HXX := Lib.hid hX
  clear h2 hx hnX hX hXl HD
  go_wp2_with (go_at_call 33; apply stop)
  refine on ?_
  refine (sum_any H2.out (HV.out.more _)).mono ?_
  rintro e w3 ⟨rfl, h3⟩
  have H3 := Lib.hid h3
  have HP := Lib.hid (put_ok h3 (v := adlerN b) (n := 4) (.inr (.inr (.inl rfl))) (adlerN_lt b) true)
  clear h3 H2
  have hlt := adlerN_lt b
  obtain ⟨ad, had⟩ : ∃ ad, adlerN b = ad := ⟨_, rfl⟩
  rw [had] at HP hlt ⊢
  have HAD := Lib.hid had
  clear had
  go_wp2_with (go_at_call 32; apply stop)
  refine on ?_
  refine HP.out.mono ?_
  rintro e w4 ⟨v4, rfl, h4⟩
  have hSl := length_bytesO true ad 4
  obtain ⟨S, hS⟩ : ∃ S, bytesO true ad 4 = S := ⟨_, rfl⟩
  rw [hS] at h4 hSl
  have HSS := Lib.hid hS
  clear hS
  obtain ⟨a4, c4, rfl⟩ := h4.reads.sub
  have H4 := Lib.hid h4; have HSL := Lib.hid hSl
  clear h4 H3 HP hSl
  go_wp2_with (at_builtin; apply stop)
  have h5 := H4.out.lit (([120, 1] : List UInt8).map bv).toArray 5 2 rfl (by decide)
  refine on (wpList_append_sep T rfl _ _ rfl rfl h5 rfl h5.right.right.reads (bv_oneCell X) (by unfold maxLen; omega) (by omega) ?_)
  intro v5 w5 h6 _
  obtain ⟨a5, c5, rfl⟩ := h6.reads.sub
  have H6 := Lib.hid h6
  clear h5 h6 H4
  go_wp2_with (at_builtin; apply stop)
  refine on (wpList_append_sep T rfl _ _ rfl rfl H6.out rfl H6.out.right.reads (bv_oneCell S) (by unfold maxLen; omega) (by omega) ?_)
  intro v7 w7 h7 _
  have H7 := Lib.hid h7
  clear h7 H6
  go_wp2_with fail
  go_ret2
  refine ⟨v7, x, 120 :: 1 :: (X ++ S), rfl, HX.out, hxl, by rw [HXX.out, HAD.out, HSS.out], ?_⟩
  have h8 := H7.out.perm (star_z1 _ _ _ _)
  have h9 := (H7.out.perm (star_left_comm _ _ _)).right
  have e1 : ([120, 1] : List UInt8).map bv ++ X.map bv ++ S.map bv = ((120 : UInt8) :: 1 :: (X ++ S)).map bv := by simp
  have e2 : 2 + nX + 4 = ((120 : UInt8) :: 1 :: (X ++ S)).length := by simp [HNX.out, HSL.out]; omega
  have h10 := h9.perm (star_left_comm _ _ _)
  rw [← e2, ← e1]
  exact h10.right
theorem pack_bad {w0 w : World} {F : SProp} (h : St w0 w F) {v : Value} {j : Int} (hj : j < 0 ∨ 2 < j) :
    Calls Try.prog 16 #[v, .int .i64 j] w fun e w' => e = .returned (.tuple #[.slice none 0 0, .int .i64 1]) ∧ St w0 w' F := by
  have HD := Lib.hid (deflate_bad (v := v) h hj)
  clear h hj
  go_enter Try.func16, Try.ntmps16
  go_wp2_with (go_at_call 11; apply stop)
  refine on ?_
  refine HD.out.mono ?_
  rintro e w2 ⟨rfl, h2⟩
  have H2 := Lib.hid h2
  clear h2
  go_wp2_with fail
  go_ret2
  exact ⟨rfl, H2.out⟩
set_option maxHeartbeats 40000000 in
theorem open_arg {w0 w : World} {F : SProp} (h : St w0 w F) {a : Option Addr} {L c : Nat} {most : Int} (hm : most < 0) :
    Calls Try.prog 17 #[.slice a L c, .int .i64 most] w fun e w' => e = .returned (.tuple #[.slice none 0 0, .int .i64 0, .int .i64 1]) ∧ St w0 w' F := by
  have H := Lib.hid h
  clear h
  go_enter Try.func17, Try.ntmps17
  go_wp2_with fail
  go_ret3
  exact ⟨rfl, H.out⟩
theorem open_short {w0 w : World} {F : SProp} (h : St w0 w F) {a : Option Addr} {L c : Nat} {most : Nat} (hL : L < 2) :
    Calls Try.prog 17 #[.slice a L c, .int .i64 (most : Int)] w fun e w' => e = .returned (.tuple #[.slice none 0 0, .int .i64 0, .int .i64 2]) ∧ St w0 w' F := by
  have H := Lib.hid h
  have hm : ¬ (most : Int) < 0 := by omega
  have hLI : (L : Int) < 2 := by omega
  clear h
  go_enter Try.func17, Try.ntmps17
  go_wp2_with fail
  go_ret3
  exact ⟨rfl, H.out⟩
set_option maxHeartbeats 40000000 in
theorem open_any {w0 w : World} {F : SProp} (h : St w0 w F) (bs : List UInt8) (most : Int) (hl : bs.length ≤ 100000000) (hm : most ≤ 10000000000000) {vb : Value} (hv : Stb w0 F (fun w => Reads w 1 vb bs.length (bs.map bv))) :
    Calls Try.prog 17 #[vb, .int .i64 most] w fun e w' => ∃ (v : Value) (n x : Nat), e = .returned (.tuple #[v, .int .i64 n, .int .i64 x]) ∧ InfR (zopen bs most) v n x w0 w' F := by
  obtain ⟨ab, cb, rfl⟩ := (hv w h).sub
  by_cases hneg : most < 0
  · refine (open_arg h hneg).mono ?_
    rintro e w2 ⟨rfl, h2⟩
    exact ⟨_, 0, 1, rfl, by unfold zopen; rw [if_pos hneg]; exact ⟨rfl, rfl, rfl, by decide, h2⟩⟩
  obtain ⟨M, rfl⟩ : ∃ M : Nat, most = M := ⟨most.toNat, by omega⟩
  rcases bs with _ | ⟨XY, _ | ⟨YY, r⟩⟩
  · refine (open_short h (by simp)).mono ?_
    rintro e w2 ⟨rfl, h2⟩
    exact ⟨_, 0, 2, rfl, by unfold zopen; rw [if_neg hneg]; exact ⟨rfl, rfl, rfl, by decide, h2⟩⟩
  · refine (open_short h (by simp)).mono ?_
    rintro e w2 ⟨rfl, h2⟩
    exact ⟨_, 0, 2, rfl, by unfold zopen; rw [if_neg hneg]; exact ⟨rfl, rfl, rfl, by decide, h2⟩⟩
  have hres : zopen (XY :: YY :: r) M = if zheadB XY.toNat YY.toNat then .inl 3 else zrest r M := by rw [zopen, if_neg hneg]
  rw [hres]
  clear hres hneg
  obtain ⟨n, hn⟩ : ∃ n, r.length = n := ⟨_, rfl⟩
  have hlen : (XY :: YY :: r).length = n + 2 := by rw [List.length_cons, List.length_cons, hn]
  have hcap := (rd_cap (hv w h)).1
  have hcap2 := (rd_cap (hv w h)).2
  unfold maxLen at hcap2
  rw [hlen] at hv hl hcap
  rw [hlen]
  obtain ⟨b, off, rfl, k0⟩ := (hv w h).at_ (j := 0) (by omega)
  obtain ⟨b', off', e, k1⟩ := (hv w h).at_ (j := 1) (by omega)
  cases e
  replace k0 : w.cell? ⟨b, off, none⟩ = some (.int .u8 (XY.toNat : Int)) := k0
  replace k1 : w.cell? ⟨b, off + 1, none⟩ = some (.int .u8 (YY.toNat : Int)) := k1
  have hx8 := UInt8.toNat_lt XY; have hy8 := UInt8.toNat_lt YY
  have HV := Lib.hid hv; have H := Lib.hid h; have HN := Lib.hid hn; have HLEN := Lib.hid hlen
  clear hv h hn hlen
  have HDROP : Hid (∀ W, St w0 W F → Reads W 1 (.slice (some ⟨b, off + 2, none⟩) n (cb - 2)) n (r.map bv)) := Lib.hid fun W hW => by
    have := rd_sub (HV.out W hW) (i := 2) (j := n + 2) (by omega) (by omega)
    rw [Nat.add_sub_cancel, Addr.add_lit] at this
    have e : ((((XY :: YY :: r).map bv).drop 2).take n) = r.map bv := by
      simp only [List.map_cons, List.drop_succ_cons, List.drop_zero]
      rw [List.take_of_length_le (by rw [List.length_map, HN.out]; exact Nat.le_refl _)]
    rw [e] at this
    exact this
  generalize XY.toNat = x at *
  generalize YY.toNat = y at *
  have hz0 : (0 : Int) < ((n + 2 : Nat) : Int) := by omega
  have hz1 : (1 : Int) < ((n + 2 : Nat) : Int) := by omega
  have hMn : ¬ (M : Int) < 0 := by omega
  have hn2 : ¬ ((n + 2 : Nat) : Int) < 2 := by omega
  obtain ⟨L, hL⟩ : ∃ L, n + 2 = L := ⟨_, rfl⟩
  rw [hL] at HV HLEN hl hcap hz0 hz1 hn2 ⊢
  have HL := Lib.hid hL
  clear hL
  have hz0N : 0 < L := by omega
  have hz1N : 1 < L := by omega
  have a15 := and15 x hx8
  have a32 := and32 y hy8
  by_cases hbad : zheadB x y = true
  · rw [hbad, if_pos rfl]
    have HB := Lib.hid (or_true4 hbad)
    clear hbad
    have fin : ∀ W, (∃ m, W = w.drewN m) → St w0 W F := fun W ⟨m, hm⟩ => by rw [hm]; exact H.out.drewN m
    have FIN := Lib.hid fin; clear fin
    obtain hA | ⟨hA, hB⟩ | ⟨hA, hB, hC⟩ | ⟨hA, hB, hC, hD⟩ := HB.out
    · have eA : ((x : Int) % 16 != 8) = true := by simp at hA ⊢; omega
      clear hA
      go_enter Try.func17, Try.ntmps17
      go_upto_region 5 with (fail)
      go_quiet (fail)
      go_wp2_with fail
      go_ret3
      exact ⟨_, 0, 3, rfl, rfl, rfl, rfl, by decide, FIN.out _ ⟨_, rfl⟩⟩
    · have eA : ((x : Int) % 16 != 8) = false := by simp at hA ⊢; omega
      have eB : decide ((7 : Int) < (x : Int) / 16) = true := by simp at hB ⊢; omega
      clear hA hB
      go_enter Try.func17, Try.ntmps17
      go_upto_region 5 with (fail)
      go_quiet (fail)
      go_wp2_with fail
      go_ret3
      exact ⟨_, 0, 3, rfl, rfl, rfl, rfl, by decide, FIN.out _ ⟨_, rfl⟩⟩
    · have eA : ((x : Int) % 16 != 8) = false := by simp at hA ⊢; omega
      have eB : decide ((7 : Int) < (x : Int) / 16) = false := by simp at hB ⊢; omega
      have eC : (((x : Int) * 256 + (y : Int)) % 31 != 0) = true := by simp at hC ⊢; omega
      clear hA hB hC
      go_enter Try.func17, Try.ntmps17
      go_upto_region 5 with (fail)
      go_quiet (fail)
      go_wp2_with fail
      go_ret3
      exact ⟨_, 0, 3, rfl, rfl, rfl, rfl, by decide, FIN.out _ ⟨_, rfl⟩⟩
    · have eA : ((x : Int) % 16 != 8) = false := by simp at hA ⊢; omega
      have eB : decide ((7 : Int) < (x : Int) / 16) = false := by simp at hB ⊢; omega
      have eC : (((x : Int) * 256 + (y : Int)) % 31 != 0) = false := by simp at hC ⊢; omega
      have eD : ((y : Int) / 32 % 2 * 32 != 0) = true := by simp at hD ⊢; omega
      clear hA hB hC hD
      go_enter Try.func17, Try.ntmps17
      go_upto_region 5 with (fail)
      go_quiet (fail)
      go_wp2_with fail
      go_ret3
      exact ⟨_, 0, 3, rfl, rfl, rfl, rfl, by decide, FIN.out _ ⟨_, rfl⟩⟩
  · rw [if_neg hbad]
    have hA : (x % 16 != 8) = false ∧ decide (7 < x / 16) = false ∧ ((x * 256 + y) % 31 != 0) = false ∧ (y / 32 % 2 == 1) = false := by
      unfold zheadB at hbad
      revert hbad
      cases (x % 16 != 8) <;> cases decide (7 < x / 16) <;> cases ((x * 256 + y) % 31 != 0) <;> cases (y / 32 % 2 == 1) <;> simp
    obtain ⟨hA, hB, hC, hD⟩ := hA
    clear hbad
    have eA : ((x : Int) % 16 != 8) = false := by simp at hA ⊢; omega
    have eB : decide ((7 : Int) < (x : Int) / 16) = false := by simp at hB ⊢; omega
    have eC : (((x : Int) * 256 + (y : Int)) % 31 != 0) = false := by simp at hC ⊢; omega
    have eD : ((y : Int) / 32 % 2 * 32 != 0) = false := by simp at hD ⊢; omega
    clear hA hB hC hD
    go_enter Try.func17, Try.ntmps17
    go_upto_region 5 with (fail)
    go_quiet (fail)
    have HI := Lib.hid (fun (W : World) (hW : St w0 W F) (vb : Value) (hvb : Stb w0 F (fun w => Reads w 1 vb n (r.map bv))) => inflate_any hW r (M : Int) (by rw [HN.out]; have := HL.out; omega) (by omega) (vb := vb) (by rw [HN.out]; exact hvb))
    have H' := Lib.hid (H.out.drewN nq)
    clear a15 a32 eA eB eC eD
    generalize w.drewN nq = wq at *
    by_cases hc2 : cb = 2
    · subst hc2
      have RZ : Hid (∀ (W : World) (a : Option Addr), Reads W 1 (.slice a 0 0) n (r.map bv)) := Lib.hid fun W a => by
        have e0 : n = 0 := by have := HL.out; omega
        have hr : r = [] := List.eq_nil_of_length_eq_zero (by rw [HN.out]; exact e0)
        rw [e0, hr]; exact rd_nil W a
      have hL2 : L - 2 = 0 := by have := HL.out; omega
      go_wp2_with (go_at_call 14; apply stop)
      refine on ?_
      refine (HI.out _ H'.out _ (fun W hW => RZ.out W _)).mono ?_
      rintro e w2 ⟨v2, n2, x2, rfl, h2⟩
      have hzr : zrest r (M : Int) = match inflI r (M : Int) with
          | .inl e => .inl e
          | .inr (o, n) => if r.length < n + 4 then .inl 2 else if numH ((r.drop n).take 4) ≠ adlerN o then .inl 4 else .inr (o, n + 6) := rfl
      cases hI : inflI r (M : Int) with
      | inl ee =>
        rw [hI] at h2 hzr
        obtain ⟨rfl, rfl, rfl, hne, h2⟩ := h2
        have hneI : ((x2 : Int) != 0) = true := by simp; omega
        have H2 := Lib.hid h2; have HZ := Lib.hid hzr; have HNE := Lib.hid hne
        clear h2 hzr hI hne
        go_wp2_with fail
        go_ret3
        exact ⟨_, 0, x2, rfl, by rw [HZ.out]; exact ⟨rfl, rfl, rfl, HNE.out, H2.out⟩⟩
      | inr z =>
        obtain ⟨o, k⟩ := z
        rw [hI] at h2 hzr
        obtain ⟨hk1, hk2⟩ := inflI_up hI
        obtain ⟨hn2k, rfl, h2⟩ := h2
        rw [hn2k]
        clear hn2k n2
        rw [HN.out] at hk1 hzr
        have hon := h2.reads.len_le
        obtain ⟨a2, c2, rfl⟩ := h2.reads.sub
        have H2 := Lib.hid h2; have HZ := Lib.hid hzr
        clear h2 hzr hI hon
        obtain ⟨p, hp⟩ : ∃ p, 2 + k = p := ⟨_, rfl⟩
        have hpI : (2 : Int) + (k : Int) = (p : Int) := by omega
        have hp9 : p ≤ 1000000000 := by have := HL.out; omega
        have hk9 : k ≤ 1000000000 := by omega
        by_cases hs : n < k + 4
        · have HG := Lib.hid (get_cut H2.out (a := some ⟨b, off, none⟩) (L := L) (c := 2) (p := p) (n := 4) (by have := HL.out; omega) (by omega) (by omega) (.inr (.inr (.inl rfl))) true)
          clear hp
          go_wp2_with (go_at_call 34; apply stop)
          refine on ?_
          refine HG.out.mono ?_
          rintro e w3 ⟨rfl, h3⟩
          have H3 := Lib.hid h3
          clear h3
          go_wp2_with fail
          go_ret3
          exact ⟨_, 0, 2, rfl, by rw [HZ.out]; simp only; rw [if_pos hs]; exact ⟨rfl, rfl, rfl, by decide, H3.out.right⟩⟩
        · have hbl := HLEN.out
          have G := get_ok (bs := XY :: YY :: r) (v := .slice (some ⟨b, off, none⟩) L 2) H2.out (by rw [hbl]; exact HV.out.more _) (p := p) (n := 4) (by rw [hbl]; have := HL.out; omega) (by rw [hbl]; omega) (.inr (.inr (.inl rfl))) true
          have eN : numO true (((XY :: YY :: r).drop p).take 4) = numH ((r.drop k).take 4) := by
            rw [← hp, Nat.add_comm 2 k]; rfl
          rw [eN] at G
          have hlt : numH ((r.drop k).take 4) < 4294967296 := by
            have h1 := numH_lt ((r.drop k).take 4)
            rw [List.length_take, List.length_drop, HN.out, Nat.min_eq_left (by omega)] at h1
            exact h1
          have hadl := adlerN_lt o
          obtain ⟨sm, hsm⟩ : ∃ sm, numH ((r.drop k).take 4) = sm := ⟨_, rfl⟩
          rw [hsm] at G hlt
          have HG := Lib.hid G; have HSM := Lib.hid hsm
          clear G hsm hp hbl eN
          go_wp2_with (go_at_call 34; apply stop)
          refine on ?_
          refine HG.out.mono ?_
          rintro e w3 ⟨rfl, h3⟩
          have HS := Lib.hid (sum_any h3 Stb.of_own)
          clear h3
          obtain ⟨ad, had⟩ : ∃ ad, adlerN o = ad := ⟨_, rfl⟩
          rw [had] at HS hadl
          have HAD := Lib.hid had
          clear had
          by_cases he : sm = ad
          · have heI : ((sm : Int) != (ad : Int)) = false := by simp; omega
            go_wp2_with (go_at_call 33; apply stop)
            refine on ?_
            refine HS.out.mono ?_
            rintro e w4 ⟨rfl, h4⟩
            have H4 := Lib.hid h4
            have HE := Lib.hid he
            clear h4 he
            go_wp2_with fail
            go_ret3
            refine ⟨_, k + 6, 0, rfl, ?_⟩
            rw [HZ.out]
            simp only
            rw [if_neg hs, if_neg (by rw [HSM.out, HAD.out]; exact fun h => h HE.out)]
            exact ⟨rfl, rfl, H4.out⟩
          · have heI : ((sm : Int) != (ad : Int)) = true := by simp; omega
            go_wp2_with (go_at_call 33; apply stop)
            refine on ?_
            refine HS.out.mono ?_
            rintro e w4 ⟨rfl, h4⟩
            have H4 := Lib.hid h4
            have HE := Lib.hid he
            clear h4 he
            go_wp2_with fail
            go_ret3
            refine ⟨_, 0, 4, rfl, ?_⟩
            rw [HZ.out]
            simp only
            rw [if_neg hs, if_pos (by rw [HSM.out, HAD.out]; exact HE.out)]
            exact ⟨rfl, rfl, rfl, by decide, H4.out.right⟩
    · have hLn : L - 2 = n := by have := HL.out; omega
      go_wp2_with (go_at_call 14; apply stop)
      refine on ?_
      refine (HI.out _ H'.out _ (fun W hW => HDROP.out W hW)).mono ?_
      rintro e w2 ⟨v2, n2, x2, rfl, h2⟩
      have hzr : zrest r (M : Int) = match inflI r (M : Int) with
          | .inl e => .inl e
          | .inr (o, n) => if r.length < n + 4 then .inl 2 else if numH ((r.drop n).take 4) ≠ adlerN o then .inl 4 else .inr (o, n + 6) := rfl
      cases hI : inflI r (M : Int) with
      | inl ee =>
        rw [hI] at h2 hzr
        obtain ⟨rfl, rfl, rfl, hne, h2⟩ := h2
        have hneI : ((x2 : Int) != 0) = true := by simp; omega
        have H2 := Lib.hid h2; have HZ := Lib.hid hzr; have HNE := Lib.hid hne
        clear h2 hzr hI hne
        go_wp2_with fail
        go_ret3
        exact ⟨_, 0, x2, rfl, by rw [HZ.out]; exact ⟨rfl, rfl, rfl, HNE.out, H2.out⟩⟩
      | inr z =>
        obtain ⟨o, k⟩ := z
        rw [hI] at h2 hzr
        obtain ⟨hk1, hk2⟩ := inflI_up hI
        obtain ⟨hn2k, rfl, h2⟩ := h2
        rw [hn2k]
        clear hn2k n2
        rw [HN.out] at hk1 hzr
        have hon := h2.reads.len_le
        obtain ⟨a2, c2, rfl⟩ := h2.reads.sub
        have H2 := Lib.hid h2; have HZ := Lib.hid hzr
        clear h2 hzr hI hon
        obtain ⟨p, hp⟩ : ∃ p, 2 + k = p := ⟨_, rfl⟩
        have hpI : (2 : Int) + (k : Int) = (p : Int) := by omega
        have hp9 : p ≤ 1000000000 := by have := HL.out; omega
        have hk9 : k ≤ 1000000000 := by omega
        by_cases hs : n < k + 4
        · have HG := Lib.hid (get_cut H2.out (a := some ⟨b, off, none⟩) (L := L) (c := cb) (p := p) (n := 4) (by have := HL.out; omega) (by omega) (by omega) (.inr (.inr (.inl rfl))) true)
          clear hp
          go_wp2_with (go_at_call 34; apply stop)
          refine on ?_
          refine HG.out.mono ?_
          rintro e w3 ⟨rfl, h3⟩
          have H3 := Lib.hid h3
          clear h3
          go_wp2_with fail
          go_ret3
          exact ⟨_, 0, 2, rfl, by rw [HZ.out]; simp only; rw [if_pos hs]; exact ⟨rfl, rfl, rfl, by decide, H3.out.right⟩⟩
        · have hbl := HLEN.out
          have G := get_ok (bs := XY :: YY :: r) (v := .slice (some ⟨b, off, none⟩) L cb) H2.out (by rw [hbl]; exact HV.out.more _) (p := p) (n := 4) (by rw [hbl]; have := HL.out; omega) (by rw [hbl]; omega) (.inr (.inr (.inl rfl))) true
          have eN : numO true (((XY :: YY :: r).drop p).take 4) = numH ((r.drop k).take 4) := by
            rw [← hp, Nat.add_comm 2 k]; rfl
          rw [eN] at G
          have hlt : numH ((r.drop k).take 4) < 4294967296 := by
            have h1 := numH_lt ((r.drop k).take 4)
            rw [List.length_take, List.length_drop, HN.out, Nat.min_eq_left (by omega)] at h1
            exact h1
          have hadl := adlerN_lt o
          obtain ⟨sm, hsm⟩ : ∃ sm, numH ((r.drop k).take 4) = sm := ⟨_, rfl⟩
          rw [hsm] at G hlt
          have HG := Lib.hid G; have HSM := Lib.hid hsm
          clear G hsm hp hbl eN
          go_wp2_with (go_at_call 34; apply stop)
          refine on ?_
          refine HG.out.mono ?_
          rintro e w3 ⟨rfl, h3⟩
          have HS := Lib.hid (sum_any h3 Stb.of_own)
          clear h3
          obtain ⟨ad, had⟩ : ∃ ad, adlerN o = ad := ⟨_, rfl⟩
          rw [had] at HS hadl
          have HAD := Lib.hid had
          clear had
          by_cases he : sm = ad
          · have heI : ((sm : Int) != (ad : Int)) = false := by simp; omega
            go_wp2_with (go_at_call 33; apply stop)
            refine on ?_
            refine HS.out.mono ?_
            rintro e w4 ⟨rfl, h4⟩
            have H4 := Lib.hid h4
            have HE := Lib.hid he
            clear h4 he
            go_wp2_with fail
            go_ret3
            refine ⟨_, k + 6, 0, rfl, ?_⟩
            rw [HZ.out]
            simp only
            rw [if_neg hs, if_neg (by rw [HSM.out, HAD.out]; exact fun h => h HE.out)]
            exact ⟨rfl, rfl, H4.out⟩
          · have heI : ((sm : Int) != (ad : Int)) = true := by simp; omega
            go_wp2_with (go_at_call 33; apply stop)
            refine on ?_
            refine HS.out.mono ?_
            rintro e w4 ⟨rfl, h4⟩
            have H4 := Lib.hid h4
            have HE := Lib.hid he
            clear h4 he
            go_wp2_with fail
            go_ret3
            refine ⟨_, 0, 4, rfl, ?_⟩
            rw [HZ.out]
            simp only
            rw [if_neg hs, if_pos (by rw [HSM.out, HAD.out]; exact HE.out)]
            exact ⟨rfl, rfl, rfl, by decide, H4.out.right⟩
end Go.Proofs.Ytddifndfppilkaa
