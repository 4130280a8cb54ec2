/-
  Parts of a proof.
-/
import Derived.Test.YtboflbdniogcdaaGreatDoorK03
import Derived.Test.YtboflbdniogcdaaGreatDoorK05
import Derived.Test.YtboflbdniogcdaaGreatDoorK01
namespace Go.Proofs.YtboflbdniogcdaaGreatDoor
open Go.RowKit Go.Mz
set_option linter.unusedVariables false
set_option linter.unusedSimpArgs false
set_option maxRecDepth 100000
def uv (v : Nat) : Value := .int .u32 (v : Int)
theorem uv_oneCell (l : List Nat) : ∀ u ∈ l.map uv, u.oneCell' = true := by
 intro u hu
 obtain ⟨c, _, rfl⟩ := List.mem_map.1 hu
 rfl
def wholeS (wide : Nat) : Bool := wide == 16 || wide == 32
def packO (wide : Nat) (big : Bool) (l : List Nat) : List UInt8 := l.flatMap fun v => bytesO big v (wide / 8)
def packB (wide : Nat) (l : List Nat) : List Nat := l.flatMap fun v => wrN false v wide
def packL (wide : Nat) (big : Bool) (l : List Nat) : List UInt8 := if wholeS wide = true then packO wide big l else bytesB false (packB wide l)
theorem packO_len (wide : Nat) (big : Bool) (l : List Nat) : (packO wide big l).length = l.length * (wide / 8) := by
 unfold packO
 induction l with
 | nil => simp
 | cons a r ih => rw [List.flatMap_cons, List.length_append, length_bytesO, ih, List.length_cons, Nat.succ_mul, Nat.add_comm]
theorem packB_len (wide : Nat) (l : List Nat) : (packB wide l).length = l.length * wide := by
 unfold packB
 induction l with
 | nil => simp
 | cons a r ih => rw [List.flatMap_cons, List.length_append, length_wrN, ih, List.length_cons, Nat.succ_mul, Nat.add_comm]
theorem packO_snoc (wide : Nat) (big : Bool) (l : List Nat) (v : Nat) : packO wide big (l ++ [v]) = packO wide big l ++ bytesO big v (wide / 8) := by
 simp [packO, List.flatMap_append]
theorem packB_snoc (wide : Nat) (l : List Nat) (v : Nat) : packB wide (l ++ [v]) = packB wide l ++ wrN false v wide := by
 simp [packB, List.flatMap_append]
theorem packL_len {wide : Nat} (big : Bool) (l : List Nat) : (packL wide big l).length = (l.length * wide + 7) / 8 := by
 unfold packL
 by_cases h : wholeS wide = true
 ·rw [if_pos h, packO_len]
  have h : wide = 16 ∨ wide = 32 := by simpa [wholeS] using h
  rcases h with rfl | rfl <;> omega
 ·rw [if_neg h, length_bytesB, packB_len]
def diffF (wide per : Nat) (l : List Nat) (j : Nat) : List Nat := (List.range l.length).map fun i => if i < j ∨ i < per then l.getD i 0 else (l.getD i 0 + (2 ^ wide - l.getD (i - per) 0)) % 2 ^ wide
def diffL (wide per : Nat) (l : List Nat) : List Nat := diffF wide per l 0
theorem diffF_len (wide per : Nat) (l : List Nat) (j : Nat) : (diffF wide per l j).length = l.length := by simp [diffF]
theorem diffF_at {wide per : Nat} {l : List Nat} {j i : Nat} (hi : i < l.length) : (diffF wide per l j)[i]? = some (if i < j ∨ i < per then l.getD i 0 else (l.getD i 0 + (2 ^ wide - l.getD (i - per) 0)) % 2 ^ wide) := by
 rw [diffF, List.getElem?_map, List.getElem?_range hi]; rfl
theorem diffF_all (wide per : Nat) (l : List Nat) : diffF wide per l l.length = l := by
 apply List.ext_getElem?
 intro i
 by_cases hi : i < l.length
 ·rw [diffF_at hi, if_pos (.inl hi), List.getD_eq_getElem?_getD]; simp [hi]
 ·rw [List.getElem?_eq_none (by rw [diffF_len]; omega), List.getElem?_eq_none (by omega)]
theorem diffF_step {wide per : Nat} {l : List Nat} {i : Nat} (hi : i < l.length) (hp : per ≤ i) : (diffF wide per l (i + 1)).set i ((l.getD i 0 + (2 ^ wide - l.getD (i - per) 0)) % 2 ^ wide) = diffF wide per l i := by
 apply List.ext_getElem?
 intro k
 by_cases hk : k < l.length
 ·rw [diffF_at hk]
  by_cases h : k = i
  ·subst h
   rw [List.getElem?_set_self (by rw [diffF_len]; exact hk), if_neg (by omega)]
  ·rw [List.getElem?_set_ne (by omega), diffF_at hk]
   congr 1
   by_cases h2 : k < i ∨ k < per
   ·rw [if_pos h2, if_pos (by omega)]
   ·rw [if_neg h2, if_neg (by omega)]
 ·rw [List.getElem?_eq_none (by rw [List.length_set, diffF_len]; omega), List.getElem?_eq_none (by rw [diffF_len]; omega)]
theorem diffF_low {wide per : Nat} (l : List Nat) : ∀ j, j ≤ per → diffF wide per l j = diffL wide per l := by
 intro j hj
 apply List.ext_getElem?
 intro k
 by_cases hk : k < l.length
 ·rw [diffL, diffF_at hk, diffF_at hk]
  by_cases h : k < per
  ·rw [if_pos (.inr h), if_pos (.inr h)]
  ·rw [if_neg (by omega), if_neg (by omega)]
 ·rw [List.getElem?_eq_none (by rw [diffF_len]; omega), List.getElem?_eq_none (by rw [diffL, diffF_len]; omega)]
theorem diffL_len (wide per : Nat) (l : List Nat) : (diffL wide per l).length = l.length := diffF_len _ _ _ _
theorem diffL_lt {wide per : Nat} {l : List Nat} (hl : ∀ v ∈ l, v < 2 ^ wide) : ∀ v ∈ diffL wide per l, v < 2 ^ wide := by
 intro v hv
 obtain ⟨i, hi, rfl⟩ := List.mem_map.1 hv
 have hi := List.mem_range.1 hi
 have hp : 0 < 2 ^ wide := Nat.two_pow_pos _
 by_cases h : i < 0 ∨ i < per
 ·rw [if_pos h, List.getD_eq_getElem?_getD, List.getElem?_eq_getElem hi]; exact hl _ (List.getElem_mem hi)
 ·rw [if_neg h]; exact Nat.mod_lt _ hp
theorem diff_u32 {a b wide m : Nat} (hw : wide = 8 ∨ wide = 16 ∨ wide = 32) (hm : m = 2 ^ wide - 1) (ha : a < 2 ^ wide) (hb : b < 2 ^ wide) :
  bits .and .u32 (((a : Int) - (b : Int)) % 4294967296) (m : Int) = ((a + (2 ^ wide - b)) % 2 ^ wide : Nat) := by
 obtain ⟨x, hx⟩ : ∃ x : Nat, (x : Int) = ((a : Int) - (b : Int)) % 4294967296 := ⟨(((a : Int) - (b : Int)) % 4294967296).toNat, by omega⟩
 rw [← hx, u32_and_nat x m (by omega) (by rcases hw with rfl | rfl | rfl <;> omega), hm, Nat.and_two_pow_sub_one_eq_mod]
 rcases hw with rfl | rfl | rfl <;> (congr 1; omega)
inductive PbS : List UInt8 → List UInt8 → Prop
 | nil : PbS [] []
 | run (n : Nat) (c : UInt8) (r z : List UInt8) : 2 ≤ n → n ≤ 128 → PbS r z → PbS (List.replicate n c ++ r) (UInt8.ofNat (257 - n) :: c :: z)
 | lit (l r z : List UInt8) : 1 ≤ l.length → l.length ≤ 128 → PbS r z → PbS (l ++ r) (UInt8.ofNat (l.length - 1) :: (l ++ z))
theorem PbS.len {b z : List UInt8} (h : PbS b z) : z.length ≤ 2 * b.length := by
 induction h with
 | nil => simp
 | run n c r z h1 h2 h ih => simp; omega
 | lit l r z h1 h2 h ih => simp; omega
end Go.Proofs.YtboflbdniogcdaaGreatDoor
namespace Go.Proofs.YtboflbdniogcdaaGreatDoor
open Go.RowKit Go.Mz
set_option linter.unusedVariables false
set_option linter.unusedSimpArgs false
set_option maxRecDepth 100000
theorem mul_le24 {n wide : Nat} (hn : n ≤ 4194304) (h2 : wide ≤ 32) : n * wide ≤ 134217728 := Nat.le_trans (Nat.mul_le_mul hn h2) (by decide)
theorem ssize_any {w : World} {n wide : Nat} (hn : n ≤ 4194304) (h1 : 1 ≤ wide) (h2 : wide ≤ 32) :
  Calls Tryz.prog 33 #[.int .i64 (n : Int), .int .i64 (wide : Int)] w fun e w' => e = .returned (.tuple #[.int .i64 (((n * wide + 7) / 8 : Nat) : Int), .int .i64 0]) ∧ w = w' := by
 have hm := mul_le24 hn h2
 have hmI : (n : Int) * (wide : Int) = ((n * wide : Nat) : Int) := by simp
 obtain ⟨m, hmm⟩ : ∃ m, n * wide = m := ⟨_, rfl⟩
 rw [hmm] at hm hmI ⊢
 clear hmm
 go_enter Tryz.func33, Tryz.ntmps33
 go_wp2_with fail
 go_ret2
 exact ⟨by congr 4 <;> go_num, rfl⟩
theorem whole_any {w : World} {wide : Nat} :
  Calls Tryz.prog 78 #[.int .i64 (wide : Int)] w fun e w' => e = .returned (.bool (wholeS wide)) ∧ w = w' := by
 have e : wholeS wide = ((wide : Int) == 16 || (wide : Int) == 32) := by
  rw [Bool.eq_iff_iff]; simp [wholeS]; omega
 rw [e]
 by_cases h : (wide : Int) = 16
 ·rw [h]
  go_enter Tryz.func78, Tryz.ntmps78
  go_wp2_with fail
  go_ret
  exact ⟨rfl, rfl⟩
 ·have hb : ((wide : Int) == 16) = false := by simpa using h
  rw [hb]
  go_enter Tryz.func78, Tryz.ntmps78
  go_wp2_with fail
  go_ret
  exact ⟨rfl, rfl⟩
def SPackOut (w0 : World) (F : SProp) (wide : Nat) (big : Bool) (l : List Nat) (e : Ending) (w' : World) : Prop :=
 ((∀ x ∈ l, x < 2 ^ wide) → ∃ v', e = .returned (.tuple #[v', .int .i64 0]) ∧ St w0 w' (own 5 1 v' (packL wide big l).length ((packL wide big l).map bv) * F)) ∧
 ((¬ ∀ x ∈ l, x < 2 ^ wide) → e = .returned (.tuple #[.slice none 0 0, .int .i64 7]) ∧ St w0 w' F)
theorem SPackOut.ok {w0 : World} {F : SProp} {wide : Nat} {big : Bool} {l : List Nat} {w' : World} {v' : Value} {Z : List UInt8} (h : ∀ x ∈ l, x < 2 ^ wide) (hZ : Z = packL wide big l) (hs : St w0 w' (own 5 1 v' Z.length (Z.map bv) * F)) : SPackOut w0 F wide big l (.returned (.tuple #[v', .int .i64 0])) w' :=
 ⟨fun _ => ⟨v', rfl, hZ ▸ hs⟩, fun hn => absurd h hn⟩
theorem SPackOut.over {w0 : World} {F : SProp} {wide : Nat} {big : Bool} {l : List Nat} {w' : World} {k x : Nat} (hk : l[k]? = some x) (hx : ¬ x < 2 ^ wide) (hs : St w0 w' F) : SPackOut w0 F wide big l (.returned (.tuple #[.slice none 0 0, .int .i64 7])) w' :=
 ⟨fun h => absurd (h x (List.mem_of_getElem? hk)) hx, fun _ => ⟨rfl, hs⟩⟩
theorem take_all_lt {l : List Nat} {k x m : Nat} (hk : l[k]? = some x) (hx : x < m) (h : ∀ y ∈ l.take k, y < m) : ∀ y ∈ l.take (k + 1), y < m := by
 intro y hy
 rw [List.take_add_one, hk, List.mem_append] at hy
 rcases hy with hy | hy
 ·exact h y hy
 ·simp at hy; subst hy; exact hx
theorem take_snoc {α : Type} {l : List α} {k : Nat} {x : α} (hk : l[k]? = some x) : l.take (k + 1) = l.take k ++ [x] := by rw [List.take_add_one, hk]; rfl
set_option maxHeartbeats 40000000 in
theorem spack_whole {w0 w : World} {F : SProp} (h : St w0 w F) {l : List Nat} {v : Value} (hv : Stb w0 F (fun w => Reads w 1 v l.length (l.map uv))) (hl : l.length ≤ 4194304) (hb : ∀ x ∈ l, x < 4294967296) {wide nb : Nat} (hw : wide = 16 ∨ wide = 32) (hnb : (wide : Int) / 8 = nb) (big : Bool) :
  Calls Tryz.prog 38 #[v, .int .i64 (wide : Int), .bool big] w fun e w' => SPackOut w0 F wide big l e w' := by
 have hW : wholeS wide = true := by simpa [wholeS] using hw
 have hnb2 : wide / 8 = nb := by omega
 have hok : okW nb := by rcases hw with rfl | rfl; exact .inr (.inl (by omega)); exact .inr (.inr (.inl (by omega)))
 have hnb4 : nb ≤ 4 := by omega
 have hpow : 256 ^ nb = 2 ^ wide := by rcases hw with rfl | rfl <;> (have : nb = 2 ∨ nb = 4 := by omega) <;> rcases this with rfl | rfl <;> first | rfl | omega
 have hPL : packL wide big l = packO wide big l := by rw [packL, if_pos hW]
 have HSZ := Lib.hid (fun w => ssize_any (w := w) hl (wide := wide) (by omega) (by omega))
 have HWH := Lib.hid (fun w => whole_any (w := w) (wide := wide))
 obtain ⟨nl, hnl⟩ : ∃ nl, l.length = nl := ⟨_, rfl⟩
 have HNL := Lib.hid hnl
 rw [hnl] at hl hv HSZ
 obtain ⟨a0, c0, rfl⟩ := (hv w h).sub
 have HV := Lib.hid hv
 have H := Lib.hid h
 have HP := Lib.hid hpow; have HPL := Lib.hid hPL; have HB := Lib.hid hb; have HOK := Lib.hid hok; have HN2 := Lib.hid hnb2
 rw [hW] at HWH
 clear hpow hPL hb hok hnb2 hW hw hnl hv h
 have T := elemBytes
 obtain ⟨sz, hsz⟩ : ∃ sz, ((nl * wide + 7) / 8 : Nat) = sz := ⟨_, rfl⟩
 rw [hsz] at HSZ
 clear hsz
 go_enter Tryz.func38, Tryz.ntmps38
 go_wp2_with (first | (go_at_call 33; refine (HSZ.out _).mono ?_; rintro e w1 ⟨rfl, rfl⟩) | (go_at_call 78; refine (HWH.out _).mono ?_; rintro e w1 ⟨rfl, rfl⟩))
 have h1 := H.out.lit #[] 5 0 rfl (by decide)
 have H1 := Lib.hid (show St w0 _ (own 5 1 (.slice (some ⟨w.heap.size, 0, none⟩) 0 0) 0 [] * F) from h1)
 clear h1
 generalize w.heap.size = g0 at *
 go_loopw [10, 34] (fun vo vi wr => ∃ (k : Nat) (ao : Option Addr) (co : Nat) (Z : List UInt8), k ≤ nl ∧ vi = .int .i64 k ∧ vo = .slice ao Z.length co ∧ RowKit.Hid (Z = packO wide big (l.take k) ∧ ∀ y ∈ l.take k, y < 2 ^ wide) ∧ Z.length ≤ 4 * k ∧ St w0 wr (own 5 1 (.slice ao Z.length co) Z.length (Z.map bv) * F)) (fun _ vi _ => nl - (intOf vi).toNat)
 case atStart => exact ⟨0, _, 0, [], Nat.zero_le _, rfl, rfl, Lib.hid ⟨rfl, fun y hy => by simp at hy⟩, Nat.zero_le _, H1.out⟩
 case round =>
  clear H1 H HSZ HWH
  obtain ⟨k, ao, co, Z, hk, rfl, rfl, hZ, hZl, hst⟩ := hrel
  by_cases hkn : k < nl
  ·have hkI : (k : Int) < nl := by omega
   obtain ⟨x, hx⟩ : ∃ x, l[k]? = some x := ⟨l[k]'(by rw [HNL.out]; exact hkn), List.getElem?_eq_getElem _⟩
   obtain ⟨b, off, rfl, hc⟩ := (HV.out _ hst.right).at_ hkn
   rw [List.getElem?_map, hx, show (some x).map uv = some (.int .u32 (x : Int)) from rfl] at hc
   have hx32 : x < 4294967296 := HB.out x (List.mem_of_getElem? hx)
   have HX := Lib.hid hx
   clear hx
   by_cases hlt : x < 2 ^ wide
   ·have HC := Lib.hid (put_ok hst (v := x) (n := nb) HOK.out (by rw [HP.out]; exact hlt) big)
    have HLT := Lib.hid hlt; have HST := Lib.hid hst
    clear hlt hst
    go_wp2_with (go_at_call 83; apply stop)
    refine on (HC.out.mono ?_)
    rintro e w2 ⟨v2, rfl, h2⟩
    obtain ⟨a2, c2, rfl⟩ := h2.reads.sub
    have h2 := h2.perm (star_left_comm _ _ _)
    have H2 := Lib.hid h2
    clear h2 HC HST
    have hbo := length_bytesO big x nb
    obtain ⟨Y, hY⟩ : ∃ Y, bytesO big x nb = Y := ⟨_, rfl⟩
    rw [hY] at H2 hbo
    have HYY := Lib.hid hY
    have HBO := Lib.hid hbo
    clear hY hbo
    go_wp2_with (at_builtin; apply stop)
    refine on (wpList_append_sep T rfl _ _ rfl rfl H2.out rfl H2.out.right.reads (bv_oneCell Y) (by unfold maxLen; omega) (by omega) ?_)
    intro v3 w3 h3 _
    have h4 : St w0 w3 (own 5 1 v3 (Z ++ Y).length ((Z ++ Y).map bv) * F) := by
     rw [List.length_append, List.map_append, HBO.out]
     exact (h3.perm (star_left_comm _ _ _)).right
    have hZn : Z ++ Y = packO wide big (l.take (k + 1)) := by rw [take_snoc HX.out, packO_snoc, ← hZ.out.1, HN2.out, HYY.out]
    have hZa : ∀ y ∈ l.take (k + 1), y < 2 ^ wide := take_all_lt HX.out HLT.out hZ.out.2
    have hZl2 : (Z ++ Y).length ≤ 4 * (k + 1) := by rw [List.length_append, HBO.out]; omega
    generalize Z ++ Y = Z2 at *
    obtain ⟨a3, c3, rfl⟩ := h4.reads.sub
    have HE := Lib.hid (And.intro hZn hZa)
    have H4 := Lib.hid h4
    clear h3 h4 hZn hZa H2 hZ hZl
    go_wp2_with fail
    exact ⟨⟨k + 1, a3, c3, Z2, by omega, by go_num, rfl, HE, hZl2, H4.out⟩, by simp [intOf]; omega⟩
   ·have HC := Lib.hid (put_over hst (v := x) (n := nb) HOK.out (by rw [HP.out]; omega) (by omega) big)
    have HLT := Lib.hid hlt
    clear hlt hst
    go_wp2_with (go_at_call 83; apply stop)
    refine on (HC.out.mono ?_)
    rintro e w2 ⟨rfl, h2⟩
    have H2 := Lib.hid h2.right
    clear h2 HC
    go_wp2_with fail
    go_ret2
    exact SPackOut.over HX.out HLT.out H2.out
  ·obtain rfl : k = nl := by omega
   have HST := Lib.hid hst
   clear hst
   go_wp2_with fail
   go_ret2
   have e : l.take k = l := by rw [← HNL.out, List.take_length]
   refine SPackOut.ok (Z := Z) ?_ ?_ HST.out
   ·have := hZ.out.2; rwa [e] at this
   ·rw [hZ.out.1, e, HPL.out]
set_option maxHeartbeats 40000000 in
theorem spack_bits {w0 w : World} {F : SProp} (h : St w0 w F) {l : List Nat} {v : Value} (hv : Stb w0 F (fun w => Reads w 1 v l.length (l.map uv))) (hl : l.length ≤ 4194304) (hb : ∀ x ∈ l, x < 4294967296) {wide : Nat} (h1 : 1 ≤ wide) (h2 : wide ≤ 32) (hW : wholeS wide = false) (big : Bool) :
  Calls Tryz.prog 38 #[v, .int .i64 (wide : Int), .bool big] w fun e w' => SPackOut w0 F wide big l e w' := by
 have hw32 : wide < 32 := by
  rcases Nat.lt_or_ge wide 32 with h | h
  ·exact h
  ·obtain rfl : wide = 32 := by omega
   simp [wholeS] at hW
 have hPL : packL wide big l = bytesB false (packB wide l) := by rw [packL, if_neg (by simp [hW])]
 have HSZ := Lib.hid (fun w => ssize_any (w := w) hl (wide := wide) (by omega) (by omega))
 have HWH := Lib.hid (fun w => whole_any (w := w) (wide := wide))
 have HPB := Lib.hid (fun k => packB_len wide (l.take k))
 obtain ⟨nl, hnl⟩ : ∃ nl, l.length = nl := ⟨_, rfl⟩
 have HNL := Lib.hid hnl
 rw [hnl] at hl hv HSZ
 obtain ⟨a0, c0, rfl⟩ := (hv w h).sub
 have HV := Lib.hid hv
 have H := Lib.hid h
 have HPL := Lib.hid hPL; have HB := Lib.hid hb
 rw [hW] at HWH
 clear hPL hb hW hnl hv h
 obtain ⟨sz, hsz⟩ : ∃ sz, ((nl * wide + 7) / 8 : Nat) = sz := ⟨_, rfl⟩
 rw [hsz] at HSZ
 clear hsz
 go_enter Tryz.func38, Tryz.ntmps38
 go_wp2_with (first | (go_at_call 33; refine (HSZ.out _).mono ?_; rintro e w1 ⟨rfl, rfl⟩) | (go_at_call 78; refine (HWH.out _).mono ?_; rintro e w1 ⟨rfl, rfl⟩) | (go_at_call 84; apply stop))
 refine on ((newWriter_any (low := false) H.out).mono ?_)
 rintro e w1 ⟨B, rfl, h3⟩
 have H1 := Lib.hid h3
 clear h3
 go_wp2_with fail
 go_loopw [58] (fun vi wr => ∃ k : Nat, k ≤ nl ∧ vi = .int .i64 k ∧ RowKit.Hid (∀ y ∈ l.take k, y < 2 ^ wide) ∧ St w0 wr (wrt B (packB wide (l.take k)) false * F)) (fun vi _ => nl - (intOf vi).toNat)
 case atStart => exact ⟨0, Nat.zero_le _, rfl, Lib.hid (fun y hy => by simp at hy), H1.out⟩
 case round =>
  clear H1 H HSZ HWH
  obtain ⟨k, hk, rfl, hZ, hst⟩ := hrel
  by_cases hkn : k < nl
  ·have hkI : (k : Int) < nl := by omega
   obtain ⟨x, hx⟩ : ∃ x, l[k]? = some x := ⟨l[k]'(by rw [HNL.out]; exact hkn), List.getElem?_eq_getElem _⟩
   obtain ⟨b, off, rfl, hc⟩ := (HV.out _ hst.right).at_ hkn
   rw [List.getElem?_map, hx, show (some x).map uv = some (.int .u32 (x : Int)) from rfl] at hc
   have hx32 : x < 4294967296 := HB.out x (List.mem_of_getElem? hx)
   have HX := Lib.hid hx
   clear hx
   by_cases hlt : x < 2 ^ wide
   ·have hml : (packB wide (l.take k)).length + 32 ≤ 100000000000000 := by
     have h5 := HPB.out k
     have h6 : (l.take k).length * wide ≤ 4194304 * 32 := Nat.mul_le_mul (by rw [List.length_take]; omega) h2
     omega
    have HC := Lib.hid (write_ok hst x wide h2 (fun _ => Nat.div_eq_of_lt hlt) hx32 hml)
    have HZn := Lib.hid (show packB wide (l.take k) ++ wrN false x wide = packB wide (l.take (k + 1)) by rw [take_snoc HX.out, packB_snoc])
    have HZa := Lib.hid (take_all_lt HX.out hlt hZ.out)
    clear hlt hst hml
    go_wp2_with (go_at_call 85; apply stop)
    refine on (HC.out.mono ?_)
    rintro e w2 ⟨rfl, h4⟩
    rw [HZn.out] at h4
    have H4 := Lib.hid h4
    clear h4 HC
    go_wp2_with fail
    exact ⟨⟨k + 1, by omega, by go_num, HZa, H4.out⟩, by simp [intOf]; omega⟩
   ·have HC := Lib.hid (fun w p => write_over (w := w) p x wide hw32 (fun h0 => hlt (by have := Nat.div_add_mod x (2 ^ wide); have := Nat.mod_lt x (Nat.two_pow_pos wide); rw [h0] at *; omega)))
    have HLT := Lib.hid hlt
    have HST := Lib.hid hst
    clear hlt hst
    go_wp2_with (go_at_call 85; apply stop)
    refine on ((HC.out _ _).mono ?_)
    rintro e w2 ⟨rfl, rfl⟩
    go_wp2_with fail
    go_ret2
    exact SPackOut.over HX.out HLT.out HST.out.right
  ·obtain rfl : k = nl := by omega
   have e : l.take k = l := by rw [← HNL.out, List.take_length]
   rw [e] at hst hZ
   have HC := Lib.hid (bytes_any hst)
   clear hst
   go_wp2_with (go_at_call 86; apply stop)
   refine on (HC.out.mono ?_)
   rintro e w2 ⟨v2, rfl, h4⟩
   have H4 := Lib.hid (h4.perm (star_left_comm _ _ _)).right
   clear h4 HC
   go_wp2_with fail
   go_ret2
   refine SPackOut.ok (Z := bytesB false (packB wide l)) hZ.out HPL.out.symm ?_
   rw [length_bytesB]
   exact H4.out
theorem spack_any {w0 w : World} {F : SProp} (h : St w0 w F) {l : List Nat} {v : Value} (hv : Stb w0 F (fun w => Reads w 1 v l.length (l.map uv))) (hl : l.length ≤ 4194304) (hb : ∀ x ∈ l, x < 4294967296) {wide : Nat} (h1 : 1 ≤ wide) (h2 : wide ≤ 32) (big : Bool) :
  Calls Tryz.prog 38 #[v, .int .i64 (wide : Int), .bool big] w fun e w' => SPackOut w0 F wide big l e w' := by
 cases hW : wholeS wide with
 | true =>
  have hw : wide = 16 ∨ wide = 32 := by simpa [wholeS] using hW
  exact spack_whole h hv hl hb hw (nb := wide / 8) (by omega) big
 | false => exact spack_bits h hv hl hb h1 h2 hW big
end Go.Proofs.YtboflbdniogcdaaGreatDoor
namespace Go.Proofs.YtboflbdniogcdaaGreatDoor
open Go.RowKit Go.Mz
set_option linter.unusedVariables false
set_option linter.unusedSimpArgs false
set_option maxRecDepth 100000
theorem elemU32 : ElemT Tryz.prog 22 48 1 4 (.int .u32 0) :=
 ⟨Tryz.underlying22, info_parts (by kernel_rfl), rfl, by decide⟩
theorem mask_any {w : World} {wide : Nat} (hw : wide = 8 ∨ wide = 16 ∨ wide = 32) :
  Calls Tryz.prog 131 #[.int .i64 (wide : Int)] w fun e w' => e = .returned (.tuple #[.int .u32 ((2 ^ wide - 1 : Nat) : Int), .bool true]) ∧ w = w' := by
 rcases hw with rfl | rfl | rfl
 ·go_enter Tryz.func131, Tryz.ntmps131
  go_wp2_with fail
  go_ret2
  exact ⟨rfl, rfl⟩
 ·go_enter Tryz.func131, Tryz.ntmps131
  go_wp2_with fail
  go_ret2
  exact ⟨rfl, rfl⟩
 ·go_enter Tryz.func131, Tryz.ntmps131
  go_wp2_with fail
  go_ret2
  exact ⟨rfl, rfl⟩
def FitsOut (m : Nat) (l : List Nat) (e : Ending) : Prop :=
 ((∀ x ∈ l, x ≤ m) → e = .returned (.tuple #[.int .u32 (m : Int), .int .i64 0])) ∧ ((¬ ∀ x ∈ l, x ≤ m) → e = .returned (.tuple #[.int .u32 0, .int .i64 7]))
set_option maxHeartbeats 40000000 in
theorem pfits_any {w : World} {l : List Nat} {v : Value} (hv : Reads w 1 v l.length (l.map uv)) (hl : l.length ≤ 4194304) {wide per m : Nat} (hw : wide = 8 ∨ wide = 16 ∨ wide = 32) (hm : m = 2 ^ wide - 1) (hp : 1 ≤ per) (hpl : per ≤ 1000000) (hmod : l.length % per = 0) :
  Calls Tryz.prog 82 #[v, .int .i64 (per : Int), .int .i64 (wide : Int)] w fun e w' => FitsOut m l e ∧ w = w' := by
 have HM := Lib.hid (fun w => mask_any (w := w) hw)
 rw [← hm] at HM
 have hm32 : m < 4294967296 := by rcases hw with rfl | rfl | rfl <;> omega
 have hmI : (l.length : Int) % (per : Int) = 0 := by exact_mod_cast hmod
 have hperI : (per : Int) ≠ 0 := by omega
 have hperI1 : ¬ (per : Int) < 1 := by omega
 obtain ⟨a, cap, rfl⟩ := hv.sub
 have HV := Lib.hid hv
 obtain ⟨nl, hnl⟩ : ∃ nl, l.length = nl := ⟨_, rfl⟩
 have HNL := Lib.hid hnl
 rw [hnl] at hl hmI HV ⊢
 clear hw hm hmod hnl hv
 go_enter Tryz.func82, Tryz.ntmps82
 go_wp2_with (go_at_call 131; refine (HM.out _).mono ?_; rintro e w1 ⟨rfl, rfl⟩)
 go_loop [32] (fun vi => ∃ k : Nat, k ≤ nl ∧ vi = .int .i64 k ∧ RowKit.Hid (∀ y ∈ l.take k, y < m + 1)) (fun vi => nl - (intOf vi).toNat)
 case atStart => exact ⟨0, Nat.zero_le _, rfl, Lib.hid (fun y hy => by simp at hy)⟩
 case round =>
  obtain ⟨k, hk, rfl, hZ⟩ := hrel
  by_cases hkn : k < nl
  ·have hkI : (k : Int) < nl := by omega
   obtain ⟨x, hx⟩ : ∃ x, l[k]? = some x := ⟨l[k]'(by rw [HNL.out]; exact hkn), List.getElem?_eq_getElem _⟩
   obtain ⟨b, off, rfl, hc⟩ := HV.out.at_ hkn
   rw [List.getElem?_map, hx, show (some x).map uv = some (.int .u32 (x : Int)) from rfl] at hc
   by_cases hlt : x ≤ m
   ·have hltI : ¬ (m : Int) < x := by omega
    have HZ2 := Lib.hid (take_all_lt hx (m := m + 1) (by omega) hZ.out)
    clear hlt hx hZ
    go_wp2_with fail
    exact ⟨⟨k + 1, by omega, by go_num, HZ2⟩, by simp [intOf]; omega⟩
   ·have hltI : (m : Int) < x := by omega
    have HO := Lib.hid (show ¬ ∀ y ∈ l, y ≤ m from fun h => hlt (h x (List.mem_of_getElem? hx)))
    clear hlt hx hZ
    go_wp2_with fail
    go_ret2
    exact ⟨⟨fun h => absurd h HO.out, fun _ => rfl⟩, rfl⟩
  ·obtain rfl : k = nl := by omega
   go_wp2_with fail
   go_ret2
   have hZ := hZ.out
   rw [← HNL.out, List.take_length] at hZ
   exact ⟨⟨fun _ => rfl, fun h => absurd (fun x hx => by have := hZ x hx; omega) h⟩, rfl⟩
def DiffOut (w0 : World) (F : SProp) (wide per : Nat) (l : List Nat) (e : Ending) (w' : World) : Prop :=
 ((∀ x ∈ l, x < 2 ^ wide) → ∃ v', e = .returned (.tuple #[v', .int .i64 0]) ∧ St w0 w' (own 48 1 v' l.length ((diffL wide per l).map uv) * F)) ∧
 ((¬ ∀ x ∈ l, x < 2 ^ wide) → e = .returned (.tuple #[.slice none 0 0, .int .i64 7]) ∧ St w0 w' F)
set_option maxHeartbeats 40000000 in
theorem pdiff_any {w0 w : World} {F : SProp} (h : St w0 w F) {l : List Nat} {v : Value} (hv : Stb w0 F (fun w => Reads w 1 v l.length (l.map uv))) (hl : l.length ≤ 4194304) {wide per : Nat} (hw : wide = 8 ∨ wide = 16 ∨ wide = 32) (hp : 1 ≤ per) (hpl : per ≤ 1000000) (hmod : l.length % per = 0) :
  Calls Tryz.prog 37 #[v, .int .i64 (per : Int), .int .i64 (wide : Int)] w fun e w' => DiffOut w0 F wide per l e w' := by
 have hpos := Nat.two_pow_pos wide
 obtain ⟨m, hm⟩ : ∃ m, m = 2 ^ wide - 1 := ⟨_, rfl⟩
 have hm32 : 2 ^ wide ≤ 4294967296 := by rcases hw with rfl | rfl | rfl <;> omega
 have hm33 : m < 4294967296 := by omega
 have HFI := Lib.hid (pfits_any (hv w h) hl hw hm hp hpl hmod)
 by_cases hall : ∀ x ∈ l, x < 2 ^ wide
 ·have hF : FitsOut m l = fun e => e = .returned (.tuple #[.int .u32 (m : Int), .int .i64 0]) := by
   funext e
   have ha : ∀ x ∈ l, x ≤ m := fun x hx => by have := hall x hx; omega
   exact propext ⟨fun h => h.1 ha, fun h => ⟨fun _ => h, fun hn => absurd ha hn⟩⟩
  rw [hF] at HFI
  have HD := Lib.hid (fun (a b : Nat) (ha : a < 2 ^ wide) (hb : b < 2 ^ wide) => diff_u32 hw hm ha hb)
  have HALL := Lib.hid hall
  have hgoal : DiffOut w0 F wide per l = fun e w' => ∃ v', e = .returned (.tuple #[v', .int .i64 0]) ∧ St w0 w' (own 48 1 v' l.length ((diffL wide per l).map uv) * F) := by
   funext e w'
   exact propext ⟨fun h => h.1 hall, fun h => ⟨fun _ => h, fun hn => absurd hall hn⟩⟩
  rw [hgoal]
  clear hF hgoal hall hw hmod
  have HFA := Lib.hid (diffF_all wide per l)
  have HLO := Lib.hid (fun j (hj : j ≤ per) => diffF_low (wide := wide) l j hj)
  have HAT := Lib.hid (fun j i (hi : i < l.length) (hlo : i < j ∨ i < per) => (diffF_at (wide := wide) (per := per) (j := j) hi).trans (by rw [if_pos hlo]))
  have HST := Lib.hid (fun i (hi : i < l.length) (hp : per ≤ i) => diffF_step (wide := wide) hi hp)
  have HGET := Lib.hid (fun i (hi : i < l.length) => show l.getD i 0 < 2 ^ wide by
   rw [List.getD_eq_getElem?_getD, List.getElem?_eq_getElem hi]; exact HALL.out _ (List.getElem_mem hi))
  obtain ⟨nl, hnl⟩ : ∃ nl, l.length = nl := ⟨_, rfl⟩
  rw [hnl] at hl hv HAT HST HGET ⊢
  rw [hnl] at HFA
  clear hnl
  obtain ⟨a0, c0, rfl⟩ := (hv w h).sub
  have H := Lib.hid h
  have HV := Lib.hid hv
  clear hv h hm hpos
  have T := elemU32
  go_enter Tryz.func37, Tryz.ntmps37
  go_wp2_with (first | (go_at_call 82; refine HFI.out.mono ?_; rintro e w1 ⟨rfl, rfl⟩) | (at_builtin; apply stop))
  have h1 := H.out.lit #[] 48 0 rfl (by decide)
  refine on (wpList_append_sep T rfl _ _ rfl rfl (show St w0 _ (own 48 1 (.slice (some ⟨w.heap.size, 0, none⟩) 0 0) 0 [] * F) from h1) rfl (HV.out _ h1.right) (uv_oneCell l) (by unfold maxLen; omega) (by omega) ?_)
  intro v2 w2 h2 _
  simp only [Nat.zero_add, List.nil_append] at h2
  obtain ⟨a2, c2, rfl⟩ := h2.reads.sub
  rw [← HFA.out] at h2
  have H2 := Lib.hid h2
  clear h2 h1 H HFI
  go_wp2_with fail
  go_loopw [11] (fun vi wr => ∃ (j : Nat) (z : Int), j ≤ nl ∧ z = j - 1 ∧ vi = .int .i64 z ∧ St w0 wr (own 48 1 (.slice a2 nl c2) nl ((diffF wide per l j).map uv) * F)) (fun vi _ => (intOf vi + 1).toNat)
  case atStart => exact ⟨nl, (nl : Int) - 1, Nat.le_refl _, rfl, by go_num, H2.out⟩
  case round =>
   clear H2
   obtain ⟨j, z, hj, hz, rfl, hst⟩ := hrel
   by_cases hjp : per < j
   ·obtain ⟨i, rfl⟩ : ∃ i, j = i + 1 := ⟨j - 1, by omega⟩
    obtain rfl : z = i := by omega
    clear hz
    have hpi : (per : Int) ≤ i := by omega
    obtain ⟨g, rfl⟩ := own_at hst (by omega)
    obtain ⟨q, hq⟩ : ∃ q, i = q + per := ⟨i - per, by omega⟩
    have hqi : (i : Int) - per = (q : Int) := by omega
    have ci := hst.own_cell (i := i) (u := .int .u32 ((l.getD i 0 : Nat) : Int)) (by rw [List.getElem?_map, HAT.out (i + 1) i (by omega) (by omega)]; rfl)
    have cq := hst.own_cell (i := q) (u := .int .u32 ((l.getD q 0 : Nat) : Int)) (by rw [List.getElem?_map, HAT.out (i + 1) q (by omega) (by omega)]; rfl)
    have hfz := hst.own_free i
    have hA := HGET.out i (by omega)
    have hB := HGET.out q (by omega)
    have hd := HD.out _ _ hA hB
    have hse := HST.out i (by omega) (by omega)
    rw [show i - per = q by omega] at hse
    generalize l.getD i 0 = A at *
    generalize l.getD q 0 = B at *
    have hA32 : A < 4294967296 := by omega
    have hB32 : B < 4294967296 := by omega
    have hin : (i : Int) < nl := by omega
    have hqn : (q : Int) < nl := by omega
    have hset := hst.own_set i (uv ((A + (2 ^ wide - B)) % 2 ^ wide))
    rw [← List.map_set, hse] at hset
    have HSET := Lib.hid hset
    clear hset hse hst hA hB hq
    generalize (A + (2 ^ wide - B)) % 2 ^ wide = D at *
    go_upto_region 8 with (fail)
    go_region
    go_wp2_with fail
    exact ⟨⟨i, (i : Int) - 1, by omega, rfl, by go_num, HSET.out.drew⟩, by simp [intOf]⟩
   ·have hst' := hst
    rw [HLO.out j (by omega)] at hst'
    have HR := Lib.hid hst'
    have hzp : ¬ (per : Int) ≤ z := by omega
    clear hst hst'
    go_wp2_with fail
    go_ret2
    exact ⟨_, rfl, HR.out⟩
 ·have hF : FitsOut m l = fun e => e = .returned (.tuple #[.int .u32 0, .int .i64 7]) := by
   funext e
   have ha : ¬ ∀ x ∈ l, x ≤ m := fun h => hall fun x hx => by have := h x hx; omega
   exact propext ⟨fun h => h.2 ha, fun h => ⟨fun hn => absurd hn ha, fun _ => h⟩⟩
  rw [hF] at HFI
  have H := Lib.hid h
  have HALL := Lib.hid hall
  clear hF hall hv h hw hm hmod hpos
  go_enter Tryz.func37, Tryz.ntmps37
  go_wp2_with (first | (go_at_call 82; refine HFI.out.mono ?_; rintro e w1 ⟨rfl, rfl⟩))
  go_ret2
  exact ⟨fun h => absurd h HALL.out, fun _ => ⟨rfl, H.out⟩⟩
end Go.Proofs.YtboflbdniogcdaaGreatDoor
namespace Go.Proofs.YtboflbdniogcdaaGreatDoor
open Go.RowKit Go.Mz
set_option linter.unusedVariables false
set_option linter.unusedSimpArgs false
set_option maxRecDepth 100000
structure Opt where
 big : Bool
 large : Bool
 tiled : Bool
 w : Int
 h : Int
 planar : Bool
 scheme : Int
 predict : Bool
 low : Bool
 two : Bool
 every : Int
 al : Bool
 fin : Bool
 how : Int
def Opt.v (o : Opt) : Value := .agg #[.bool o.big, .bool o.large, .bool o.tiled, .int .i64 o.w, .int .i64 o.h, .bool o.planar, .int .i64 o.scheme, .bool o.predict, .bool o.low, .bool o.two, .int .i64 o.every, .bool o.al, .bool o.fin, .int .i64 o.how]
def rowF (predict big : Bool) (wide per : Nat) (row : List Nat) : List UInt8 := packL wide big (if predict = true then diffL wide per row else row)
def rowAt (l : List Nat) (n y : Nat) : List Nat := (l.drop (y * n)).take n
def rowsF (predict big : Bool) (wide per n : Nat) (l : List Nat) (h : Nat) : List (List UInt8) := (List.range h).map fun y => rowF predict big wide per (rowAt l n y)
theorem rowsF_succ (predict big : Bool) (wide per n : Nat) (l : List Nat) (h : Nat) : rowsF predict big wide per n l (h + 1) = rowsF predict big wide per n l h ++ [rowF predict big wide per (rowAt l n h)] := by
 rw [rowsF, List.range_succ, List.map_append]; rfl
theorem rowAt_len {l : List Nat} {n y : Nat} (h : y * n + n ≤ l.length) : (rowAt l n y).length = n := by
 rw [rowAt, List.length_take, List.length_drop]; omega
theorem rowAt_mem {l : List Nat} {n y x : Nat} (h : x ∈ rowAt l n y) : x ∈ l := List.mem_of_mem_drop (List.mem_of_mem_take h)
theorem take_row (l : List Nat) (n y : Nat) : l.take (y * n + n) = l.take (y * n) ++ rowAt l n y := by rw [rowAt, List.take_add]
def rowsBP : List (Value × List UInt8) → SProp
 | [] => emp
 | x :: r => own 5 1 x.1 x.2.length (x.2.map bv) * rowsBP r
theorem rowsBP_snoc (R : List (Value × List UInt8)) (x : Value × List UInt8) : rowsBP (R ++ [x]) = own 5 1 x.1 x.2.length (x.2.map bv) * rowsBP R := by
 induction R with
 | nil => rfl
 | cons y r ih => rw [List.cons_append, rowsBP, ih, rowsBP]; ac_rfl
theorem rowsBP_reads {w0 w : World} : ∀ (R : List (Value × List UInt8)) (F : SProp), St w0 w (rowsBP R * F) → ∀ x ∈ R, Reads w 1 x.1 x.2.length (x.2.map bv) := by
 intro R
 induction R with
 | nil => intro F _ x hx; cases hx
 | cons y r ih =>
  intro F h x hx
  have h : St w0 w (own 5 1 y.1 y.2.length (y.2.map bv) * (rowsBP r * F)) := h.perm (by rw [rowsBP, star_assoc])
  rcases List.mem_cons.1 hx with rfl | hx
  ·exact h.reads
  ·exact ih _ h.right x hx
theorem rowsBP_nil {w0 w : World} {F : SProp} (h : St w0 w F) : St w0 w (rowsBP [] * F) := h.perm (emp_star F).symm
theorem elemRowsB : ElemT Tryz.prog 49 32 1 24 (.slice none 0 0) :=
 ⟨Tryz.underlying49, info_parts (by kernel_rfl), rfl, by decide⟩
theorem reads_rowB (w : World) (v : Value) : Reads (w.alloc (.cells #[v] 32)) 1 (.slice (some ⟨w.heap.size, 0, none⟩) 1 1) 1 [v] :=
 (St.own_blk (e := 32) (size := 1) (n := 1) (cap := 1) (xs := [v]) ((St.init w).alloc _) (Nat.le_refl _) (by decide) rfl rfl).reads
def joinL (L : List (List UInt8)) : List UInt8 := L.flatten
set_option maxHeartbeats 40000000 in
theorem join_any {w0 w : World} {F : SProp} (h : St w0 w F) {R : List (Value × List UInt8)} {v : Value} (hv : Stb w0 F (fun w => Reads w 1 v R.length (R.map Prod.fst))) (hr : Stb w0 F (fun w => ∀ x ∈ R, Reads w 1 x.1 x.2.length (x.2.map bv))) (hN : R.length ≤ 1000000) (hL : (joinL (R.map Prod.snd)).length ≤ 1000000000) :
  Calls Tryz.prog 41 #[v] w fun e w' => ∃ v', e = .returned v' ∧ St w0 w' (own 5 1 v' (joinL (R.map Prod.snd)).length ((joinL (R.map Prod.snd)).map bv) * F) := by
 obtain ⟨a0, c0, rfl⟩ := (hv w h).sub
 have H := Lib.hid h
 have HV := Lib.hid hv; have HR := Lib.hid hr
 obtain ⟨J, hJ⟩ : ∃ J, joinL (R.map Prod.snd) = J := ⟨_, rfl⟩
 rw [hJ] at hL ⊢
 have HJ := Lib.hid hJ
 obtain ⟨nr, hnr⟩ : ∃ nr, R.length = nr := ⟨_, rfl⟩
 rw [hnr] at hN HV ⊢
 have HNR := Lib.hid hnr
 clear h hv hr hJ hnr
 have T := elemBytes
 go_enter Tryz.func41, Tryz.ntmps41
 go_wp2_with fail
 have h1 := H.out.lit #[] 5 0 rfl (by decide)
 have H1 := Lib.hid (show St w0 _ (own 5 1 (.slice (some ⟨w.heap.size, 0, none⟩) 0 0) 0 [] * F) from h1)
 clear h1
 generalize w.heap.size = g0 at *
 go_loopw [3, 9] (fun vo vi wr => ∃ (k zl : Nat) (ao : Option Addr) (co : Nat) (Z : List UInt8), k ≤ nr ∧ vi = .int .i64 k ∧ vo = .slice ao zl co ∧ RowKit.Hid (Z = joinL ((R.take k).map Prod.snd) ∧ Z.length = zl) ∧ zl ≤ J.length ∧ St w0 wr (own 5 1 (.slice ao zl co) zl (Z.map bv) * F)) (fun _ vi _ => nr - (intOf vi).toNat)
 case atStart => exact ⟨0, 0, _, 0, [], Nat.zero_le _, rfl, rfl, Lib.hid ⟨rfl, rfl⟩, Nat.zero_le _, H1.out⟩
 case round =>
  clear H1 H
  obtain ⟨k, zl, ao, co, Z, hk, rfl, rfl, hZ, hzl, hst⟩ := hrel
  by_cases hkn : k < nr
  ·have hkI : (k : Int) < nr := by omega
   have hkR : k < R.length := by rw [HNR.out]; exact hkn
   obtain ⟨x, hx⟩ : ∃ x, R[k]? = some x := ⟨R[k], List.getElem?_eq_getElem _⟩
   obtain ⟨b, off, rfl, hc⟩ := (HV.out _ hst.right).at_ hkn
   rw [List.getElem?_map, hx] at hc
   obtain ⟨vx, X⟩ := x
   obtain ⟨ax, cx, hvx⟩ := (HR.out _ hst.right _ (List.mem_of_getElem? hx)).sub
   simp only at hvx
   subst hvx
   simp only [Option.map_some] at hc
   have HX := Lib.hid (fun w h => (HR.out w h _ (List.mem_of_getElem? hx) : Reads w 1 (.slice ax X.length cx) X.length (X.map bv)))
   have hnew : Z ++ X = joinL ((R.take (k + 1)).map Prod.snd) := by
    rw [take_snoc hx, List.map_append, joinL, List.flatten_append, hZ.out.1, joinL]; simp
   have hle : (Z ++ X).length ≤ J.length := by
    rw [hnew, ← HJ.out, joinL, joinL]
    have e : R.map Prod.snd = (R.take (k + 1)).map Prod.snd ++ (R.drop (k + 1)).map Prod.snd := by rw [← List.map_append, List.take_append_drop]
    rw [e, List.flatten_append, List.length_append]; omega
   rw [List.length_append, hZ.out.2] at hle
   have HNW := Lib.hid hnew
   have HST := Lib.hid hst
   obtain ⟨xl, hxl⟩ : ∃ xl, X.length = xl := ⟨_, rfl⟩
   rw [hxl] at HX hle hc
   have HXL := Lib.hid hxl
   clear hnew hst hx hxl
   go_wp2_with (at_builtin; apply stop)
   refine on (wpList_append_sep T rfl _ _ rfl rfl HST.out rfl (HX.out _ HST.out.right) (bv_oneCell X) (by unfold maxLen; omega) (by omega) ?_)
   intro v3 w3 h3 _
   rw [← List.map_append] at h3
   have HZL := Lib.hid (show (Z ++ X).length = zl + xl by rw [List.length_append, hZ.out.2, HXL.out])
   generalize Z ++ X = Z2 at *
   obtain ⟨a3, c3, rfl⟩ := h3.reads.sub
   have H3 := Lib.hid h3
   clear h3 HST
   go_wp2_with fail
   exact ⟨⟨k + 1, zl + xl, a3, c3, Z2, by omega, by go_num, rfl, Lib.hid ⟨HNW.out, HZL.out⟩, hle, H3.out⟩, by simp [intOf]; omega⟩
  ·obtain rfl : k = nr := by omega
   have HST := Lib.hid hst
   clear hst
   go_wp2_with fail
   go_ret
   have hZ := hZ.out
   rw [← HNR.out, List.take_length, HJ.out] at hZ
   refine ⟨_, rfl, ?_⟩
   rw [← hZ.1, hZ.2]
   exact HST.out
end Go.Proofs.YtboflbdniogcdaaGreatDoor
namespace Go.Proofs.YtboflbdniogcdaaGreatDoor
open Go.RowKit Go.Mz
set_option linter.unusedVariables false
set_option linter.unusedSimpArgs false
set_option maxRecDepth 100000
def partV (W H per wide : Nat) (v : Value) : Value := .agg #[.int .i64 (W : Int), .int .i64 (H : Int), .int .i64 (per : Int), .int .i64 (wide : Int), v]
def RowsOut (w0 : World) (F : SProp) (predict big : Bool) (wide per n H : Nat) (l : List Nat) (e : Ending) (w' : World) : Prop :=
 ((∀ x ∈ l, x < 2 ^ wide) → ∃ v' R, e = .returned (.tuple #[v', .int .i64 0]) ∧ R.map Prod.snd = rowsF predict big wide per n l H ∧ St w0 w' (own 32 1 v' R.length (R.map Prod.fst) * (rowsBP R * F))) ∧
 ((¬ ∀ x ∈ l, x < 2 ^ wide) → e = .returned (.tuple #[.slice none 0 0, .int .i64 7]) ∧ St w0 w' F)
theorem RowsOut.over {w0 : World} {F : SProp} {predict big : Bool} {wide per n H : Nat} {l : List Nat} {w' : World} {y : Nat} (hx : ¬ ∀ x ∈ rowAt l n y, x < 2 ^ wide) (hs : St w0 w' F) : RowsOut w0 F predict big wide per n H l (.returned (.tuple #[.slice none 0 0, .int .i64 7])) w' :=
 ⟨fun h => absurd (fun x h1 => h x (rowAt_mem h1)) hx, fun _ => ⟨rfl, hs⟩⟩
theorem rd_row {w : World} {b off n c : Nat} {l : List Nat} (h : Reads w 1 (.slice (some ⟨b, off, none⟩) n c) n (l.map uv)) {i k : Nat} (hk : i + k ≤ n) : Reads w 1 (.slice (some ⟨b, off + i, none⟩) k (c - i)) k (((l.drop i).take k).map uv) := by
 have := rd_sub h (i := i) (j := i + k) (Nat.le_add_right _ _) hk
 rw [Nat.add_sub_cancel_left, ← List.map_drop, ← List.map_take] at this
 have e2 : (⟨b, off, none⟩ : Addr).add i = ⟨b, off + i, none⟩ := by cases i <;> simp [Addr.add]
 rwa [e2] at this
theorem two_alloc {w0 w : World} {F : SProp} (h : St w0 w F) (o0 o1 : Obj) : St w0 ((w.alloc o0).alloc o1) (blk (w.heap.size + 1) o1 * (blk w.heap.size o0 * F)) := by
 have e1 : (w.alloc o0).heap.size = w.heap.size + 1 := Array.size_push _
 have h3 := (h.alloc o0).alloc o1
 rwa [e1] at h3
theorem star_l3 (A B C D E : SProp) : A * (B * (C * (D * E))) = C * (D * (A * (B * E))) := by ac_rfl
set_option maxHeartbeats 40000000 in
theorem rows_any {w0 w : World} {F : SProp} (h : St w0 w F) {l : List Nat} {v : Value} (hv : Stb w0 F (fun w => Reads w 1 v l.length (l.map uv))) (hb : ∀ x ∈ l, x < 4294967296) {W H per wide n : Nat} (hW : 1 ≤ W) (hW2 : W ≤ 32768) (hH : H ≤ 32768) (hp : 1 ≤ per) (hp2 : per ≤ 8) (h1 : 1 ≤ wide) (h2 : wide ≤ 32) (hn : W * per = n) (hl : H * n = l.length) (hl2 : l.length ≤ 4194304) (o : Opt) (hpr : o.predict = true → wide = 8 ∨ wide = 16 ∨ wide = 32) :
  Calls Tryz.prog 17 #[partV W H per wide v, o.v] w fun e w' => RowsOut w0 F o.predict o.big wide per n H l e w' := by
 obtain ⟨big, large, tiled, ow, oh, planar, scheme, predict, low, two, every, al, fin, how⟩ := o
 simp only [Opt.v, partV]
 simp only at hpr
 have hn1 : 1 ≤ n := by rw [← hn]; exact Nat.mul_le_mul hW hp
 have hn2 : n ≤ 262144 := by rw [← hn]; exact Nat.mul_le_mul hW2 hp2
 have hnI : (W : Int) * (per : Int) = (n : Int) := by rw [← hn]; simp
 have hmod : n % per = 0 := by rw [← hn]; exact Nat.mul_mod_left W per
 obtain ⟨L, hL⟩ : ∃ L, l.length = L := ⟨_, rfl⟩
 rw [hL] at hl hl2 hv
 obtain ⟨a0, c0, rfl⟩ := (hv w h).sub
 have h3 := two_alloc h (.cells #[.int .i64 (W : Int), .int .i64 (H : Int), .int .i64 (per : Int), .int .i64 (wide : Int), .slice a0 L c0] 24) (.cells #[.bool big, .bool large, .bool tiled, .int .i64 ow, .int .i64 oh, .bool planar, .int .i64 scheme, .bool predict, .bool low, .bool two, .int .i64 every, .bool al, .bool fin, .int .i64 how] 28)
 have f0 := h3.right.cell 0 rfl
 have f1 := h3.right.cell 1 rfl
 have f2 := h3.right.cell 2 rfl
 have HS := Lib.hid h3
 have HV := Lib.hid hv
 have HB := Lib.hid hb
 have HLL := Lib.hid hL
 have HN := Lib.hid hn
 clear h hv hb h3 hL hn
 have T := elemRowsB
 go_enter Tryz.func17, Tryz.ntmps17
 go_wp2_with fail
 have H1 := Lib.hid (St.own_nil 32 1 (rowsBP_nil HS.out))
 clear HS f0 f1 f2
 obtain ⟨gp, hgp⟩ : ∃ gp, gp = w.heap.size := ⟨_, rfl⟩
 rw [← hgp] at H1 ⊢
 clear hgp
 generalize (w.alloc _).alloc _ = wz at *
 go_loopw [6, 20] (fun vo vi wr => ∃ (y : Nat) (R : List (Value × List UInt8)) (ao : Option Addr) (co : Nat), y ≤ H ∧ vi = .int .i64 y ∧ vo = .slice ao y co ∧ RowKit.Hid (R.map Prod.snd = rowsF predict big wide per n l y ∧ R.length = y ∧ ∀ x ∈ l.take (y * n), x < 2 ^ wide) ∧ St w0 wr (own 32 1 (.slice ao y co) y (R.map Prod.fst) * (rowsBP R * (blk (gp + 1) (.cells #[.bool big, .bool large, .bool tiled, .int .i64 ow, .int .i64 oh, .bool planar, .int .i64 scheme, .bool predict, .bool low, .bool two, .int .i64 every, .bool al, .bool fin, .int .i64 how] 28) * (blk gp (.cells #[.int .i64 (W : Int), .int .i64 (H : Int), .int .i64 (per : Int), .int .i64 (wide : Int), .slice a0 L c0] 24) * F))))) (fun _ vi _ => H - (intOf vi).toNat)
 case atStart => exact ⟨0, [], none, 0, Nat.zero_le _, rfl, rfl, Lib.hid ⟨rfl, rfl, fun x hx => by simp at hx⟩, H1.out⟩
 case round =>
  clear H1
  obtain ⟨y, R, ao, co, hy, rfl, rfl, hQ, hst⟩ := hrel
  by_cases hyn : y < H
  ·have hyI : (y : Int) < H := by omega
   obtain ⟨yn, hyn'⟩ : ∃ yn, y * n = yn := ⟨_, rfl⟩
   have hle : yn + n ≤ L := by rw [← hyn', ← hl, ← Nat.succ_mul]; exact Nat.mul_le_mul_right _ hyn
   have hm1 : (y : Int) * (n : Int) = (yn : Int) := by rw [← hyn']; simp
   have hm2 : ((y : Int) + 1) * (n : Int) = ((yn + n : Nat) : Int) := by rw [Int.add_mul, hm1]; simp
   obtain ⟨b, off, rfl, _⟩ := (HV.out _ hst.right.right.right.right).at_ (show 0 < L by omega)
   have hcap := (rd_cap (HV.out _ hst.right.right.right.right)).1
   have hcy : ¬ c0 = yn := by omega
   have hrl : (rowAt l n y).length = n := rowAt_len (by rw [HLL.out, hyn']; exact hle)
   have HROW := Lib.hid (fun w h => show Reads w 1 (.slice (some ⟨b, off + yn, none⟩) n (c0 - yn)) n ((rowAt l n y).map uv) by rw [rowAt, hyn']; exact rd_row (HV.out w h) hle)
   have HRB := Lib.hid (fun x (hx : x ∈ rowAt l n y) => HB.out x (rowAt_mem hx))
   have HTK := Lib.hid (take_row l n y)
   have HSU := Lib.hid (rowsF_succ predict big wide per n l y)
   have HRL := Lib.hid hrl
   have f4 := hst.right.right.right.cell 4 rfl
   have f2 := hst.right.right.right.cell 2 rfl
   have f3 := hst.right.right.right.cell 3 rfl
   have o0 := hst.right.right.cell 0 rfl
   have o7 := hst.right.right.cell 7 rfl
   have HST := Lib.hid hst
   have hynI : (yn : Int) ≤ (yn + n : Nat) := by omega
   have hycI : ((yn + n : Nat) : Int) ≤ c0 := by omega
   have HYN := Lib.hid hyn'
   clear hrl hyn' hst
   obtain ⟨row, hrow⟩ : ∃ row, row = rowAt l n y := ⟨_, rfl⟩
   rw [← hrow] at HROW HRB HTK HSU HRL
   have HRW := Lib.hid hrow
   clear hrow
   obtain ⟨yn1, hyn1⟩ : ∃ yn1, yn + n = yn1 := ⟨_, rfl⟩
   rw [hyn1] at hm2 hynI hycI hle
   have hsub : yn1 - yn = n := by omega
   clear hyn1
   cases predict with
   | true =>
    have HD := Lib.hid (pdiff_any HST.out (l := row) (v := .slice (some ⟨b, off + yn, none⟩) n (c0 - yn)) (fun w h => by rw [HRL.out]; exact HROW.out w h.right.right.right.right) (by rw [HRL.out]; omega) (hpr rfl) hp (by omega) (by rw [HRL.out]; exact hmod))
    go_wp2_with (go_at_call 37; apply stop)
    refine on (HD.out.mono ?_)
    rintro e w2 hd
    by_cases hall : ∀ x ∈ row, x < 2 ^ wide
    ·obtain ⟨v2, rfl, h2'⟩ := hd.1 hall
     rw [HRL.out] at h2'
     obtain ⟨a2, c2, rfl⟩ := h2'.reads.sub
     have HALL := Lib.hid hall
     have hlt := diffL_lt (wide := wide) (per := per) hall
     have hpw : 2 ^ wide ≤ 4294967296 := Nat.pow_le_pow_right (by decide) h2
     have HP := Lib.hid (spack_any h2' (l := diffL wide per row) (v := .slice a2 n c2) (fun w h => by rw [diffL_len, HRL.out]; exact h.reads) (by rw [diffL_len, HRL.out]; omega) (fun x hx => Nat.lt_of_lt_of_le (hlt x hx) hpw) h1 h2 big)
     have HLT := Lib.hid hlt
     clear hall hd hlt hpw f4 f2 f3 o0 o7 HD HST
     have f3 := h2'.right.right.right.right.cell 3 rfl
     have o0 := h2'.right.right.right.cell 0 rfl
     have HD2 := Lib.hid h2'
     clear h2'
     go_wp2_with (go_at_call 38; apply stop)
     refine on (HP.out.mono ?_)
     rintro e w3 hd
     obtain ⟨v3, rfl, h3⟩ := hd.1 HLT.out
     clear hd f3 o0 HP HD2
     obtain ⟨BO, hBO⟩ : ∃ BO, BO = blk (gp + 1) (.cells #[.bool big, .bool large, .bool tiled, .int .i64 ow, .int .i64 oh, .bool planar, .int .i64 scheme, .bool true, .bool low, .bool two, .int .i64 every, .bool al, .bool fin, .int .i64 how] 28) := ⟨_, rfl⟩
     obtain ⟨BP, hBP⟩ : ∃ BP, BP = blk gp (.cells #[.int .i64 (W : Int), .int .i64 (H : Int), .int .i64 (per : Int), .int .i64 (wide : Int), .slice (some ⟨b, off, none⟩) L c0] 24) := ⟨_, rfl⟩
     rw [← hBO, ← hBP] at h3
     obtain ⟨X, hX⟩ : ∃ X, X = packL wide big (diffL wide per row) := ⟨_, rfl⟩
     rw [← hX] at h3
     obtain ⟨a3, c3, rfl⟩ := h3.reads.sub
     have h4 := (h3.perm (show _ = own 48 1 (.slice a2 n c2) n ((diffL wide per row).map uv) * (own 32 1 (.slice ao y co) y (R.map Prod.fst) * (own 5 1 (.slice a3 X.length c3) X.length (X.map bv) * (rowsBP R * (BO * (BP * F))))) by ac_rfl)).right
     have HXX := Lib.hid hX
     obtain ⟨xl, hxl⟩ : ∃ xl, X.length = xl := ⟨_, rfl⟩
     have HXL := Lib.hid hxl
     rw [hxl] at h4 ⊢
     have H4 := Lib.hid h4
     clear h3 h4 hX hxl
     go_wp2_with (at_builtin; apply stop)
     refine on (wpList_append_sep T rfl _ _ rfl rfl (H4.out.drop_alloc (.cells #[.slice a3 xl c3] 32)) rfl (reads_rowB w3 (.slice a3 xl c3)) (by intro u hu; rw [List.mem_singleton.1 hu]; rfl) (by unfold maxLen; omega) (by omega) ?_)
     intro v7 w7 h7 _
     have h7 : St w0 w7 (own 32 1 v7 (y + 1) ((R ++ [(Value.slice a3 xl c3, X)]).map Prod.fst) * (rowsBP (R ++ [(Value.slice a3 xl c3, X)]) * (BO * (BP * F)))) := by
      rw [rowsBP_snoc, List.map_append]
      simp only [HXL.out]
      exact h7.perm (by simp only [List.map_cons, List.map_nil]; ac_rfl)
     have HQ2 := Lib.hid (show (R ++ [(Value.slice a3 xl c3, X)]).map Prod.snd = rowsF true big wide per n l (y + 1) ∧ (R ++ [(Value.slice a3 xl c3, X)]).length = y + 1 ∧ ∀ x ∈ l.take ((y + 1) * n), x < 2 ^ wide from by
      refine ⟨?_, by rw [List.length_append, hQ.out.2.1]; rfl, ?_⟩
      ·rw [List.map_append, hQ.out.1, HSU.out, HXX.out, rowF]; simp
      ·rw [Nat.succ_mul, HTK.out]
       intro x hx
       rcases List.mem_append.1 hx with hx | hx
       ·exact hQ.out.2.2 x hx
       ·exact HALL.out x hx)
     generalize R ++ [(Value.slice a3 xl c3, X)] = R2 at *
     obtain ⟨a7, c7, rfl⟩ := h7.reads.sub
     rw [hBO, hBP] at h7
     have H7 := Lib.hid h7
     clear h7 H4
     go_wp2_with fail
     exact ⟨⟨y + 1, R2, a7, c7, by omega, by go_num, rfl, HQ2, H7.out⟩, by simp [intOf]; omega⟩
    ·obtain ⟨rfl, h2'⟩ := hd.2 hall
     have H2 := Lib.hid h2'.right.right.right.right
     have HALL := Lib.hid hall
     clear hd hall h2' HD HST
     go_wp2_with fail
     go_ret2
     exact RowsOut.over (by rw [← HRW.out]; exact HALL.out) H2.out
   | false =>
    have HP := Lib.hid (spack_any HST.out (l := row) (v := .slice (some ⟨b, off + yn, none⟩) n (c0 - yn)) (fun w h => by rw [HRL.out]; exact HROW.out w h.right.right.right.right) (by rw [HRL.out]; omega) HRB.out h1 h2 big)
    go_wp2_with (go_at_call 38; apply stop)
    refine on (HP.out.mono ?_)
    rintro e w3 hd
    by_cases hall : ∀ x ∈ row, x < 2 ^ wide
    ·obtain ⟨v3, rfl, h3⟩ := hd.1 hall
     have HALL := Lib.hid hall
     clear hd hall f4 f2 f3 o0 o7 HP HST
     obtain ⟨BO, hBO⟩ : ∃ BO, BO = blk (gp + 1) (.cells #[.bool big, .bool large, .bool tiled, .int .i64 ow, .int .i64 oh, .bool planar, .int .i64 scheme, .bool false, .bool low, .bool two, .int .i64 every, .bool al, .bool fin, .int .i64 how] 28) := ⟨_, rfl⟩
     obtain ⟨BP, hBP⟩ : ∃ BP, BP = blk gp (.cells #[.int .i64 (W : Int), .int .i64 (H : Int), .int .i64 (per : Int), .int .i64 (wide : Int), .slice (some ⟨b, off, none⟩) L c0] 24) := ⟨_, rfl⟩
     rw [← hBO, ← hBP] at h3
     obtain ⟨X, hX⟩ : ∃ X, X = packL wide big row := ⟨_, rfl⟩
     rw [← hX] at h3
     obtain ⟨a3, c3, rfl⟩ := h3.reads.sub
     have h4 := (h3.perm (show _ = own 32 1 (.slice ao y co) y (R.map Prod.fst) * (own 5 1 (.slice a3 X.length c3) X.length (X.map bv) * (rowsBP R * (BO * (BP * F)))) by ac_rfl))
     have HXX := Lib.hid hX
     obtain ⟨xl, hxl⟩ : ∃ xl, X.length = xl := ⟨_, rfl⟩
     have HXL := Lib.hid hxl
     rw [hxl] at h4 ⊢
     have H4 := Lib.hid h4
     clear h3 h4 hX hxl
     go_wp2_with (at_builtin; apply stop)
     refine on (wpList_append_sep T rfl _ _ rfl rfl (H4.out.drop_alloc (.cells #[.slice a3 xl c3] 32)) rfl (reads_rowB w3 (.slice a3 xl c3)) (by intro u hu; rw [List.mem_singleton.1 hu]; rfl) (by unfold maxLen; omega) (by omega) ?_)
     intro v7 w7 h7 _
     have h7 : St w0 w7 (own 32 1 v7 (y + 1) ((R ++ [(Value.slice a3 xl c3, X)]).map Prod.fst) * (rowsBP (R ++ [(Value.slice a3 xl c3, X)]) * (BO * (BP * F)))) := by
      rw [rowsBP_snoc, List.map_append]
      simp only [HXL.out]
      exact h7.perm (by simp only [List.map_cons, List.map_nil]; ac_rfl)
     have HQ2 := Lib.hid (show (R ++ [(Value.slice a3 xl c3, X)]).map Prod.snd = rowsF false big wide per n l (y + 1) ∧ (R ++ [(Value.slice a3 xl c3, X)]).length = y + 1 ∧ ∀ x ∈ l.take ((y + 1) * n), x < 2 ^ wide from by
      refine ⟨?_, by rw [List.length_append, hQ.out.2.1]; rfl, ?_⟩
      ·rw [List.map_append, hQ.out.1, HSU.out, HXX.out, rowF]; simp
      ·rw [Nat.succ_mul, HTK.out]
       intro x hx
       rcases List.mem_append.1 hx with hx | hx
       ·exact hQ.out.2.2 x hx
       ·exact HALL.out x hx)
     generalize R ++ [(Value.slice a3 xl c3, X)] = R2 at *
     obtain ⟨a7, c7, rfl⟩ := h7.reads.sub
     rw [hBO, hBP] at h7
     have H7 := Lib.hid h7
     clear h7 H4
     go_wp2_with fail
     exact ⟨⟨y + 1, R2, a7, c7, by omega, by go_num, rfl, HQ2, H7.out⟩, by simp [intOf]; omega⟩
    ·obtain ⟨rfl, h2'⟩ := hd.2 hall
     have H2 := Lib.hid h2'.right.right.right.right
     have HALL := Lib.hid hall
     clear hd hall h2' HP HST
     go_wp2_with fail
     go_ret2
     exact RowsOut.over (by rw [← HRW.out]; exact HALL.out) H2.out
  ·obtain rfl : y = H := by omega
   have HST := Lib.hid hst
   clear hst
   go_wp2_with fail
   go_ret2
   have hq := hQ.out
   rw [hl, ← HLL.out, List.take_length] at hq
   refine ⟨fun _ => ⟨_, R, rfl, hq.1, ?_⟩, fun h => absurd hq.2.2 h⟩
   rw [hq.2.1]
   have h5 := HST.out.perm (star_l3 _ _ _ _ _)
   exact h5.right.right
end Go.Proofs.YtboflbdniogcdaaGreatDoor
namespace Go.Proofs.YtboflbdniogcdaaGreatDoor
open Go.RowKit Go.Mz
set_option linter.unusedVariables false
set_option linter.unusedSimpArgs false
set_option maxRecDepth 100000
theorem index_int {w : World} {v : Value} {l : List Nat} (hv : Reads w 1 v l.length (l.map fun (k : Nat) => Value.int .i64 (k : Int))) (hl : l.length ≤ 1000) (x : Int) :
  Calls Tryz.prog 100 #[v, .int .i64 x] w fun r w' => (∃ i : Int, r = .returned (.int .i64 i) ∧ decide (0 ≤ i) = (l.any fun (k : Nat) => (k : Int) == x)) ∧ w' = w := by
 obtain ⟨a, cap, rfl⟩ := hv.sub
 have HV := Lib.hid hv
 clear hv
 obtain ⟨nn, hnn⟩ : ∃ nn, l.length = nn := ⟨_, rfl⟩
 have HNN := Lib.hid hnn
 rw [hnn] at hl HV ⊢
 clear hnn
 go_enter Tryz.func100, Tryz.ntmps100
 go_wp2_with fail
 go_loop [8] (fun vi => ∃ k : Nat, k ≤ nn ∧ vi = .int .i64 k ∧ ((l.take k).any fun (k : Nat) => (k : Int) == x) = false) (fun vi => nn - (intOf vi).toNat)
 case atStart => exact ⟨0, by omega, rfl, rfl⟩
 case round =>
  obtain ⟨k, hk, rfl, hgood⟩ := hrel
  by_cases hkn : k < nn
  ·have hkv : k < l.length := by rw [HNN.out]; exact hkn
   obtain ⟨n, hn⟩ : ∃ n, l[k] = n := ⟨_, rfl⟩
   have hx := List.getElem?_eq_getElem hkv
   rw [hn] at hx
   obtain ⟨b, off, rfl, c0⟩ := HV.out.at_ hkn
   rw [List.getElem?_map, hx] at c0
   simp only [Option.map_some] at c0
   have hkI : (k : Int) < nn := by omega
   have htk : l.take (k + 1) = l.take k ++ [n] := by rw [List.take_succ_eq_append_getElem hkv, hn]
   have hdrop : l = l.take k ++ n :: l.drop (k + 1) := by rw [← hn, ← List.drop_eq_getElem_cons hkv, List.take_append_drop]
   by_cases hb : (n : Int) = x
   ·have hB := Lib.hid (show (l.any fun (k : Nat) => (k : Int) == x) = true by rw [hdrop, List.any_append, List.any_cons, show ((n : Int) == x) = true by simpa using hb]; simp)
    subst hb
    clear htk hdrop hgood hx hn
    go_wp2_with fail
    go_ret
    exact ⟨⟨k, rfl, by rw [hB.out]; simp⟩, rfl⟩
   ·have hb2 : ¬ x = (n : Int) := fun h => hb h.symm
    have hg2 := Lib.hid (show ((l.take (k + 1)).any fun (k : Nat) => (k : Int) == x) = false by rw [htk, List.any_append, hgood, List.any_cons, show ((n : Int) == x) = false by simpa using hb]; rfl)
    clear htk hdrop hgood hx hn
    go_wp2_with fail
    exact ⟨⟨k + 1, by omega, by go_num, hg2.out⟩, by simp [intOf]; omega⟩
  ·obtain rfl : k = nn := by omega
   have hB := Lib.hid (show (l.any fun (k : Nat) => (k : Int) == x) = false by rw [← HNN.out, List.take_length] at hgood; exact hgood)
   clear hgood
   go_wp2_with fail
   go_ret
   exact ⟨⟨-1, rfl, by rw [hB.out]; rfl⟩, rfl⟩
theorem contains_int {w : World} {v : Value} {l : List Nat} (hv : Reads w 1 v l.length (l.map fun (k : Nat) => Value.int .i64 (k : Int))) (hl : l.length ≤ 1000) (x : Int) :
  Calls Tryz.prog 48 #[v, .int .i64 x] w fun r w' => r = .returned (.bool (l.any fun (k : Nat) => (k : Int) == x)) ∧ w' = w := by
 have HI := Lib.hid (index_int hv hl x)
 obtain ⟨a, cap, rfl⟩ := hv.sub
 obtain ⟨bb, hbb⟩ : ∃ bb, bb = (l.any fun (k : Nat) => (k : Int) == x) := ⟨_, rfl⟩
 rw [← hbb] at HI ⊢
 clear hbb hv
 go_enter Tryz.func48, Tryz.ntmps48
 go_wp2_with (go_at_call 100; apply stop)
 refine on (HI.out.mono ?_)
 rintro e w1 ⟨⟨i, rfl, hi⟩, rfl⟩
 have HI2 := Lib.hid hi
 clear hi
 go_wp2_with fail
 go_ret
 exact ⟨congrArg (fun b => Ending.returned (.bool b)) HI2.out, rfl⟩
def schemeN : List Nat := [1, 2, 3, 4, 5, 8, 32773, 32946]
def schemeS (n : Int) : Bool := n == 1 || n == 2 || n == 3 || n == 4 || n == 5 || n == 8 || n == 32773 || n == 32946
theorem schemeS_eq (n : Int) : schemeS n = schemeN.any fun (k : Nat) => (k : Int) == n := by
 unfold schemeS schemeN; rw [Bool.eq_iff_iff]; simp; omega
def faxS (n : Int) : Bool := n == 2 || n == 3 || n == 4
def flateS (n : Int) : Bool := n == 8 || n == 32946
theorem scheme24_any {w0 w : World} {F : SProp} (h : St w0 w F) (n : Int) :
  Calls Tryz.prog 20 #[.int .i64 n] w fun r w' => r = .returned (.bool (schemeS n)) ∧ St w0 w' F := by
 have H := Lib.hid (h.lit (schemeN.map fun (k : Nat) => Value.int .i64 (k : Int)).toArray 3 8 (by decide) (by decide))
 rw [schemeS_eq]
 clear h
 go_enter Tryz.func20, Tryz.ntmps20
 go_wp2_with (first | (go_at_call 48; refine (contains_int (l := schemeN) H.out.reads (by decide) n).mono ?_; rintro e w1 ⟨rfl, rfl⟩))
 go_ret
 exact ⟨rfl, H.out.right⟩
theorem fax24_any (n : Int) (w : World) : Calls Tryz.prog 21 #[.int .i64 n] w fun r w' => r = .returned (.bool (faxS n)) ∧ w' = w := by
 by_cases h2 : n = 2
 ·subst h2; go_enter Tryz.func21, Tryz.ntmps21; go_wp2_with fail; go_ret; exact ⟨rfl, rfl⟩
 by_cases h3 : n = 3
 ·subst h3; go_enter Tryz.func21, Tryz.ntmps21; go_wp2_with fail; go_ret; exact ⟨rfl, rfl⟩
 go_enter Tryz.func21, Tryz.ntmps21
 go_wp2_with fail
 go_ret
 exact ⟨by simp [faxS, h2, h3], rfl⟩
theorem flates_any (n : Int) (w : World) : Calls Tryz.prog 22 #[.int .i64 n] w fun r w' => r = .returned (.bool (flateS n)) ∧ w' = w := by
 by_cases h2 : n = 8
 ·subst h2; go_enter Tryz.func22, Tryz.ntmps22; go_wp2_with fail; go_ret; exact ⟨rfl, rfl⟩
 go_enter Tryz.func22, Tryz.ntmps22
 go_wp2_with fail
 go_ret
 exact ⟨by simp [flateS, h2], rfl⟩
def legal24 (per wide n : Int) (predict two : Bool) (every how : Int) : Bool :=
 schemeS n && decide (1 ≤ per) && decide (per ≤ 8) && decide (1 ≤ wide) && decide (wide ≤ 32) && !(faxS n && (per != 1 || wide != 1)) && !(n == 3 && two && decide (every < 1)) &&
  !(predict && !(n == 5 || flateS n)) && !(predict && wide != 8 && wide != 16 && wide != 32) && (!flateS n || decide (0 ≤ how) && decide (how ≤ 2))
def Opt.legal (o : Opt) (per wide : Int) : Bool := legal24 per wide o.scheme o.predict o.two o.every o.how
set_option maxHeartbeats 40000000 in
theorem legal_any {w0 w : World} {F : SProp} (h : St w0 w F) (o : Opt) (per wide : Int) :
  Calls Tryz.prog 9 #[.int .i64 per, .int .i64 wide, o.v] w fun r w' => r = .returned (.bool (o.legal per wide)) ∧ St w0 w' F := by
 obtain ⟨big, large, tiled, ow, oh, planar, n, predict, low, two, every, al, fin, how⟩ := o
 simp only [Opt.v, Opt.legal]
 have h0 := h.alloc (.cells #[.bool big, .bool large, .bool tiled, .int .i64 ow, .int .i64 oh, .bool planar, .int .i64 n, .bool predict, .bool low, .bool two, .int .i64 every, .bool al, .bool fin, .int .i64 how] 28)
 have k6 := h0.cell 6 rfl
 have H := Lib.hid h0
 clear h h0
 by_cases hS : schemeS n = true
 ·by_cases a1 : 1 ≤ per
  ·by_cases a2 : per ≤ 8
   ·by_cases a3 : 1 ≤ wide
    ·by_cases a4 : wide ≤ 32
     ·have hn : n = 1 ∨ n = 2 ∨ n = 3 ∨ n = 4 ∨ n = 5 ∨ n = 8 ∨ n = 32773 ∨ n = 32946 := by simp [schemeS] at hS; omega
      clear hS
      rcases hn with rfl | rfl | rfl | rfl | rfl | rfl | rfl | rfl
      ·cases predict with
       | true =>
        have hL : legal24 per wide 1 true two every how = false := by first | (simp [legal24, schemeS, faxS, flateS]; done) | (simp [legal24, schemeS, faxS, flateS]; omega) | (simp [legal24, schemeS, faxS, flateS, *]; done) | (simp [legal24, schemeS, faxS, flateS, *]; omega)
        rw [hL]
        clear hL
        go_enter Tryz.func9, Tryz.ntmps9
        go_wp2_with (first | (go_at_call 20; refine (scheme24_any H.out _).mono ?_; rintro e w1 ⟨rfl, h1⟩; have k6 := h1.cell 6 rfl; have k7 := h1.cell 7 rfl; have k9 := h1.cell 9 rfl; have k10 := h1.cell 10 rfl; have k13 := h1.cell 13 rfl; have H1 := Lib.hid h1; clear h1) | (go_at_call 21; refine (fax24_any _ _).mono ?_; rintro e w2 ⟨rfl, rfl⟩) | (go_at_call 22; refine (flates_any _ _).mono ?_; rintro e w3 ⟨rfl, rfl⟩))
        go_ret
        exact ⟨by first | rfl | (exact congrArg (fun b => Ending.returned (.bool b)) (by simp [*])), H1.out.right⟩
       | false =>
        have hL : legal24 per wide 1 false two every how = true := by first | (simp [legal24, schemeS, faxS, flateS]; done) | (simp [legal24, schemeS, faxS, flateS]; omega) | (simp [legal24, schemeS, faxS, flateS, *]; done) | (simp [legal24, schemeS, faxS, flateS, *]; omega)
        rw [hL]
        clear hL
        go_enter Tryz.func9, Tryz.ntmps9
        go_wp2_with (first | (go_at_call 20; refine (scheme24_any H.out _).mono ?_; rintro e w1 ⟨rfl, h1⟩; have k6 := h1.cell 6 rfl; have k7 := h1.cell 7 rfl; have k9 := h1.cell 9 rfl; have k10 := h1.cell 10 rfl; have k13 := h1.cell 13 rfl; have H1 := Lib.hid h1; clear h1) | (go_at_call 21; refine (fax24_any _ _).mono ?_; rintro e w2 ⟨rfl, rfl⟩) | (go_at_call 22; refine (flates_any _ _).mono ?_; rintro e w3 ⟨rfl, rfl⟩))
        go_ret
        exact ⟨by first | rfl | (exact congrArg (fun b => Ending.returned (.bool b)) (by simp [*])), H1.out.right⟩
      ·by_cases f1 : per = 1
       ·subst f1
        by_cases f2 : wide = 1
        ·subst f2
         cases predict with
         | true =>
          have hL : legal24 1 1 2 true two every how = false := by first | (simp [legal24, schemeS, faxS, flateS]; done) | (simp [legal24, schemeS, faxS, flateS]; omega) | (simp [legal24, schemeS, faxS, flateS, *]; done) | (simp [legal24, schemeS, faxS, flateS, *]; omega)
          rw [hL]
          clear hL
          go_enter Tryz.func9, Tryz.ntmps9
          go_wp2_with (first | (go_at_call 20; refine (scheme24_any H.out _).mono ?_; rintro e w1 ⟨rfl, h1⟩; have k6 := h1.cell 6 rfl; have k7 := h1.cell 7 rfl; have k9 := h1.cell 9 rfl; have k10 := h1.cell 10 rfl; have k13 := h1.cell 13 rfl; have H1 := Lib.hid h1; clear h1) | (go_at_call 21; refine (fax24_any _ _).mono ?_; rintro e w2 ⟨rfl, rfl⟩) | (go_at_call 22; refine (flates_any _ _).mono ?_; rintro e w3 ⟨rfl, rfl⟩))
          go_ret
          exact ⟨by first | rfl | (exact congrArg (fun b => Ending.returned (.bool b)) (by simp [*])), H1.out.right⟩
         | false =>
          have hL : legal24 1 1 2 false two every how = true := by first | (simp [legal24, schemeS, faxS, flateS]; done) | (simp [legal24, schemeS, faxS, flateS]; omega) | (simp [legal24, schemeS, faxS, flateS, *]; done) | (simp [legal24, schemeS, faxS, flateS, *]; omega)
          rw [hL]
          clear hL
          go_enter Tryz.func9, Tryz.ntmps9
          go_wp2_with (first | (go_at_call 20; refine (scheme24_any H.out _).mono ?_; rintro e w1 ⟨rfl, h1⟩; have k6 := h1.cell 6 rfl; have k7 := h1.cell 7 rfl; have k9 := h1.cell 9 rfl; have k10 := h1.cell 10 rfl; have k13 := h1.cell 13 rfl; have H1 := Lib.hid h1; clear h1) | (go_at_call 21; refine (fax24_any _ _).mono ?_; rintro e w2 ⟨rfl, rfl⟩) | (go_at_call 22; refine (flates_any _ _).mono ?_; rintro e w3 ⟨rfl, rfl⟩))
          go_ret
          exact ⟨by first | rfl | (exact congrArg (fun b => Ending.returned (.bool b)) (by simp [*])), H1.out.right⟩
        ·have hL : legal24 1 wide 2 predict two every how = false := by first | (simp [legal24, schemeS, faxS, flateS]; done) | (simp [legal24, schemeS, faxS, flateS]; omega) | (simp [legal24, schemeS, faxS, flateS, *]; done) | (simp [legal24, schemeS, faxS, flateS, *]; omega)
         rw [hL]
         clear hL
         go_enter Tryz.func9, Tryz.ntmps9
         go_wp2_with (first | (go_at_call 20; refine (scheme24_any H.out _).mono ?_; rintro e w1 ⟨rfl, h1⟩; have k6 := h1.cell 6 rfl; have k7 := h1.cell 7 rfl; have k9 := h1.cell 9 rfl; have k10 := h1.cell 10 rfl; have k13 := h1.cell 13 rfl; have H1 := Lib.hid h1; clear h1) | (go_at_call 21; refine (fax24_any _ _).mono ?_; rintro e w2 ⟨rfl, rfl⟩) | (go_at_call 22; refine (flates_any _ _).mono ?_; rintro e w3 ⟨rfl, rfl⟩))
         go_ret
         exact ⟨by first | rfl | (exact congrArg (fun b => Ending.returned (.bool b)) (by simp [*])), H1.out.right⟩
       ·have hL : legal24 per wide 2 predict two every how = false := by first | (simp [legal24, schemeS, faxS, flateS]; done) | (simp [legal24, schemeS, faxS, flateS]; omega) | (simp [legal24, schemeS, faxS, flateS, *]; done) | (simp [legal24, schemeS, faxS, flateS, *]; omega)
        rw [hL]
        clear hL
        go_enter Tryz.func9, Tryz.ntmps9
        go_wp2_with (first | (go_at_call 20; refine (scheme24_any H.out _).mono ?_; rintro e w1 ⟨rfl, h1⟩; have k6 := h1.cell 6 rfl; have k7 := h1.cell 7 rfl; have k9 := h1.cell 9 rfl; have k10 := h1.cell 10 rfl; have k13 := h1.cell 13 rfl; have H1 := Lib.hid h1; clear h1) | (go_at_call 21; refine (fax24_any _ _).mono ?_; rintro e w2 ⟨rfl, rfl⟩) | (go_at_call 22; refine (flates_any _ _).mono ?_; rintro e w3 ⟨rfl, rfl⟩))
        go_ret
        exact ⟨by first | rfl | (exact congrArg (fun b => Ending.returned (.bool b)) (by simp [*])), H1.out.right⟩
      ·by_cases f1 : per = 1
       ·subst f1
        by_cases f2 : wide = 1
        ·subst f2
         cases two with
         | true =>
          by_cases q1 : every < 1
          ·have hL : legal24 1 1 3 predict true every how = false := by first | (simp [legal24, schemeS, faxS, flateS]; done) | (simp [legal24, schemeS, faxS, flateS]; omega) | (simp [legal24, schemeS, faxS, flateS, *]; done) | (simp [legal24, schemeS, faxS, flateS, *]; omega)
           rw [hL]
           clear hL
           go_enter Tryz.func9, Tryz.ntmps9
           go_wp2_with (first | (go_at_call 20; refine (scheme24_any H.out _).mono ?_; rintro e w1 ⟨rfl, h1⟩; have k6 := h1.cell 6 rfl; have k7 := h1.cell 7 rfl; have k9 := h1.cell 9 rfl; have k10 := h1.cell 10 rfl; have k13 := h1.cell 13 rfl; have H1 := Lib.hid h1; clear h1) | (go_at_call 21; refine (fax24_any _ _).mono ?_; rintro e w2 ⟨rfl, rfl⟩) | (go_at_call 22; refine (flates_any _ _).mono ?_; rintro e w3 ⟨rfl, rfl⟩))
           go_ret
           exact ⟨by first | rfl | (exact congrArg (fun b => Ending.returned (.bool b)) (by simp [*])), H1.out.right⟩
          ·have q2 : 1 ≤ every := by omega
           cases predict with
           | true =>
            have hL : legal24 1 1 3 true true every how = false := by first | (simp [legal24, schemeS, faxS, flateS]; done) | (simp [legal24, schemeS, faxS, flateS]; omega) | (simp [legal24, schemeS, faxS, flateS, *]; done) | (simp [legal24, schemeS, faxS, flateS, *]; omega)
            rw [hL]
            clear hL
            go_enter Tryz.func9, Tryz.ntmps9
            go_wp2_with (first | (go_at_call 20; refine (scheme24_any H.out _).mono ?_; rintro e w1 ⟨rfl, h1⟩; have k6 := h1.cell 6 rfl; have k7 := h1.cell 7 rfl; have k9 := h1.cell 9 rfl; have k10 := h1.cell 10 rfl; have k13 := h1.cell 13 rfl; have H1 := Lib.hid h1; clear h1) | (go_at_call 21; refine (fax24_any _ _).mono ?_; rintro e w2 ⟨rfl, rfl⟩) | (go_at_call 22; refine (flates_any _ _).mono ?_; rintro e w3 ⟨rfl, rfl⟩))
            go_ret
            exact ⟨by first | rfl | (exact congrArg (fun b => Ending.returned (.bool b)) (by simp [*])), H1.out.right⟩
           | false =>
            have hL : legal24 1 1 3 false true every how = true := by first | (simp [legal24, schemeS, faxS, flateS]; done) | (simp [legal24, schemeS, faxS, flateS]; omega) | (simp [legal24, schemeS, faxS, flateS, *]; done) | (simp [legal24, schemeS, faxS, flateS, *]; omega)
            rw [hL]
            clear hL
            go_enter Tryz.func9, Tryz.ntmps9
            go_wp2_with (first | (go_at_call 20; refine (scheme24_any H.out _).mono ?_; rintro e w1 ⟨rfl, h1⟩; have k6 := h1.cell 6 rfl; have k7 := h1.cell 7 rfl; have k9 := h1.cell 9 rfl; have k10 := h1.cell 10 rfl; have k13 := h1.cell 13 rfl; have H1 := Lib.hid h1; clear h1) | (go_at_call 21; refine (fax24_any _ _).mono ?_; rintro e w2 ⟨rfl, rfl⟩) | (go_at_call 22; refine (flates_any _ _).mono ?_; rintro e w3 ⟨rfl, rfl⟩))
            go_ret
            exact ⟨by first | rfl | (exact congrArg (fun b => Ending.returned (.bool b)) (by simp [*])), H1.out.right⟩
         | false =>
          cases predict with
          | true =>
           have hL : legal24 1 1 3 true false every how = false := by first | (simp [legal24, schemeS, faxS, flateS]; done) | (simp [legal24, schemeS, faxS, flateS]; omega) | (simp [legal24, schemeS, faxS, flateS, *]; done) | (simp [legal24, schemeS, faxS, flateS, *]; omega)
           rw [hL]
           clear hL
           go_enter Tryz.func9, Tryz.ntmps9
           go_wp2_with (first | (go_at_call 20; refine (scheme24_any H.out _).mono ?_; rintro e w1 ⟨rfl, h1⟩; have k6 := h1.cell 6 rfl; have k7 := h1.cell 7 rfl; have k9 := h1.cell 9 rfl; have k10 := h1.cell 10 rfl; have k13 := h1.cell 13 rfl; have H1 := Lib.hid h1; clear h1) | (go_at_call 21; refine (fax24_any _ _).mono ?_; rintro e w2 ⟨rfl, rfl⟩) | (go_at_call 22; refine (flates_any _ _).mono ?_; rintro e w3 ⟨rfl, rfl⟩))
           go_ret
           exact ⟨by first | rfl | (exact congrArg (fun b => Ending.returned (.bool b)) (by simp [*])), H1.out.right⟩
          | false =>
           have hL : legal24 1 1 3 false false every how = true := by first | (simp [legal24, schemeS, faxS, flateS]; done) | (simp [legal24, schemeS, faxS, flateS]; omega) | (simp [legal24, schemeS, faxS, flateS, *]; done) | (simp [legal24, schemeS, faxS, flateS, *]; omega)
           rw [hL]
           clear hL
           go_enter Tryz.func9, Tryz.ntmps9
           go_wp2_with (first | (go_at_call 20; refine (scheme24_any H.out _).mono ?_; rintro e w1 ⟨rfl, h1⟩; have k6 := h1.cell 6 rfl; have k7 := h1.cell 7 rfl; have k9 := h1.cell 9 rfl; have k10 := h1.cell 10 rfl; have k13 := h1.cell 13 rfl; have H1 := Lib.hid h1; clear h1) | (go_at_call 21; refine (fax24_any _ _).mono ?_; rintro e w2 ⟨rfl, rfl⟩) | (go_at_call 22; refine (flates_any _ _).mono ?_; rintro e w3 ⟨rfl, rfl⟩))
           go_ret
           exact ⟨by first | rfl | (exact congrArg (fun b => Ending.returned (.bool b)) (by simp [*])), H1.out.right⟩
        ·have hL : legal24 1 wide 3 predict two every how = false := by first | (simp [legal24, schemeS, faxS, flateS]; done) | (simp [legal24, schemeS, faxS, flateS]; omega) | (simp [legal24, schemeS, faxS, flateS, *]; done) | (simp [legal24, schemeS, faxS, flateS, *]; omega)
         rw [hL]
         clear hL
         go_enter Tryz.func9, Tryz.ntmps9
         go_wp2_with (first | (go_at_call 20; refine (scheme24_any H.out _).mono ?_; rintro e w1 ⟨rfl, h1⟩; have k6 := h1.cell 6 rfl; have k7 := h1.cell 7 rfl; have k9 := h1.cell 9 rfl; have k10 := h1.cell 10 rfl; have k13 := h1.cell 13 rfl; have H1 := Lib.hid h1; clear h1) | (go_at_call 21; refine (fax24_any _ _).mono ?_; rintro e w2 ⟨rfl, rfl⟩) | (go_at_call 22; refine (flates_any _ _).mono ?_; rintro e w3 ⟨rfl, rfl⟩))
         go_ret
         exact ⟨by first | rfl | (exact congrArg (fun b => Ending.returned (.bool b)) (by simp [*])), H1.out.right⟩
       ·have hL : legal24 per wide 3 predict two every how = false := by first | (simp [legal24, schemeS, faxS, flateS]; done) | (simp [legal24, schemeS, faxS, flateS]; omega) | (simp [legal24, schemeS, faxS, flateS, *]; done) | (simp [legal24, schemeS, faxS, flateS, *]; omega)
        rw [hL]
        clear hL
        go_enter Tryz.func9, Tryz.ntmps9
        go_wp2_with (first | (go_at_call 20; refine (scheme24_any H.out _).mono ?_; rintro e w1 ⟨rfl, h1⟩; have k6 := h1.cell 6 rfl; have k7 := h1.cell 7 rfl; have k9 := h1.cell 9 rfl; have k10 := h1.cell 10 rfl; have k13 := h1.cell 13 rfl; have H1 := Lib.hid h1; clear h1) | (go_at_call 21; refine (fax24_any _ _).mono ?_; rintro e w2 ⟨rfl, rfl⟩) | (go_at_call 22; refine (flates_any _ _).mono ?_; rintro e w3 ⟨rfl, rfl⟩))
        go_ret
        exact ⟨by first | rfl | (exact congrArg (fun b => Ending.returned (.bool b)) (by simp [*])), H1.out.right⟩
      ·by_cases f1 : per = 1
       ·subst f1
        by_cases f2 : wide = 1
        ·subst f2
         cases predict with
         | true =>
          have hL : legal24 1 1 4 true two every how = false := by first | (simp [legal24, schemeS, faxS, flateS]; done) | (simp [legal24, schemeS, faxS, flateS]; omega) | (simp [legal24, schemeS, faxS, flateS, *]; done) | (simp [legal24, schemeS, faxS, flateS, *]; omega)
          rw [hL]
          clear hL
          go_enter Tryz.func9, Tryz.ntmps9
          go_wp2_with (first | (go_at_call 20; refine (scheme24_any H.out _).mono ?_; rintro e w1 ⟨rfl, h1⟩; have k6 := h1.cell 6 rfl; have k7 := h1.cell 7 rfl; have k9 := h1.cell 9 rfl; have k10 := h1.cell 10 rfl; have k13 := h1.cell 13 rfl; have H1 := Lib.hid h1; clear h1) | (go_at_call 21; refine (fax24_any _ _).mono ?_; rintro e w2 ⟨rfl, rfl⟩) | (go_at_call 22; refine (flates_any _ _).mono ?_; rintro e w3 ⟨rfl, rfl⟩))
          go_ret
          exact ⟨by first | rfl | (exact congrArg (fun b => Ending.returned (.bool b)) (by simp [*])), H1.out.right⟩
         | false =>
          have hL : legal24 1 1 4 false two every how = true := by first | (simp [legal24, schemeS, faxS, flateS]; done) | (simp [legal24, schemeS, faxS, flateS]; omega) | (simp [legal24, schemeS, faxS, flateS, *]; done) | (simp [legal24, schemeS, faxS, flateS, *]; omega)
          rw [hL]
          clear hL
          go_enter Tryz.func9, Tryz.ntmps9
          go_wp2_with (first | (go_at_call 20; refine (scheme24_any H.out _).mono ?_; rintro e w1 ⟨rfl, h1⟩; have k6 := h1.cell 6 rfl; have k7 := h1.cell 7 rfl; have k9 := h1.cell 9 rfl; have k10 := h1.cell 10 rfl; have k13 := h1.cell 13 rfl; have H1 := Lib.hid h1; clear h1) | (go_at_call 21; refine (fax24_any _ _).mono ?_; rintro e w2 ⟨rfl, rfl⟩) | (go_at_call 22; refine (flates_any _ _).mono ?_; rintro e w3 ⟨rfl, rfl⟩))
          go_ret
          exact ⟨by first | rfl | (exact congrArg (fun b => Ending.returned (.bool b)) (by simp [*])), H1.out.right⟩
        ·have hL : legal24 1 wide 4 predict two every how = false := by first | (simp [legal24, schemeS, faxS, flateS]; done) | (simp [legal24, schemeS, faxS, flateS]; omega) | (simp [legal24, schemeS, faxS, flateS, *]; done) | (simp [legal24, schemeS, faxS, flateS, *]; omega)
         rw [hL]
         clear hL
         go_enter Tryz.func9, Tryz.ntmps9
         go_wp2_with (first | (go_at_call 20; refine (scheme24_any H.out _).mono ?_; rintro e w1 ⟨rfl, h1⟩; have k6 := h1.cell 6 rfl; have k7 := h1.cell 7 rfl; have k9 := h1.cell 9 rfl; have k10 := h1.cell 10 rfl; have k13 := h1.cell 13 rfl; have H1 := Lib.hid h1; clear h1) | (go_at_call 21; refine (fax24_any _ _).mono ?_; rintro e w2 ⟨rfl, rfl⟩) | (go_at_call 22; refine (flates_any _ _).mono ?_; rintro e w3 ⟨rfl, rfl⟩))
         go_ret
         exact ⟨by first | rfl | (exact congrArg (fun b => Ending.returned (.bool b)) (by simp [*])), H1.out.right⟩
       ·have hL : legal24 per wide 4 predict two every how = false := by first | (simp [legal24, schemeS, faxS, flateS]; done) | (simp [legal24, schemeS, faxS, flateS]; omega) | (simp [legal24, schemeS, faxS, flateS, *]; done) | (simp [legal24, schemeS, faxS, flateS, *]; omega)
        rw [hL]
        clear hL
        go_enter Tryz.func9, Tryz.ntmps9
        go_wp2_with (first | (go_at_call 20; refine (scheme24_any H.out _).mono ?_; rintro e w1 ⟨rfl, h1⟩; have k6 := h1.cell 6 rfl; have k7 := h1.cell 7 rfl; have k9 := h1.cell 9 rfl; have k10 := h1.cell 10 rfl; have k13 := h1.cell 13 rfl; have H1 := Lib.hid h1; clear h1) | (go_at_call 21; refine (fax24_any _ _).mono ?_; rintro e w2 ⟨rfl, rfl⟩) | (go_at_call 22; refine (flates_any _ _).mono ?_; rintro e w3 ⟨rfl, rfl⟩))
        go_ret
        exact ⟨by first | rfl | (exact congrArg (fun b => Ending.returned (.bool b)) (by simp [*])), H1.out.right⟩
      ·cases predict with
       | true =>
        by_cases p8 : wide = 8
        ·subst p8
         have hL : legal24 per 8 5 true two every how = true := by first | (simp [legal24, schemeS, faxS, flateS]; done) | (simp [legal24, schemeS, faxS, flateS]; omega) | (simp [legal24, schemeS, faxS, flateS, *]; done) | (simp [legal24, schemeS, faxS, flateS, *]; omega)
         rw [hL]
         clear hL
         go_enter Tryz.func9, Tryz.ntmps9
         go_wp2_with (first | (go_at_call 20; refine (scheme24_any H.out _).mono ?_; rintro e w1 ⟨rfl, h1⟩; have k6 := h1.cell 6 rfl; have k7 := h1.cell 7 rfl; have k9 := h1.cell 9 rfl; have k10 := h1.cell 10 rfl; have k13 := h1.cell 13 rfl; have H1 := Lib.hid h1; clear h1) | (go_at_call 21; refine (fax24_any _ _).mono ?_; rintro e w2 ⟨rfl, rfl⟩) | (go_at_call 22; refine (flates_any _ _).mono ?_; rintro e w3 ⟨rfl, rfl⟩))
         go_ret
         exact ⟨by first | rfl | (exact congrArg (fun b => Ending.returned (.bool b)) (by simp [*])), H1.out.right⟩
        ·have p8b : (wide != 8) = true := by simpa using p8
         by_cases p16 : wide = 16
         ·subst p16
          have hL : legal24 per 16 5 true two every how = true := by first | (simp [legal24, schemeS, faxS, flateS]; done) | (simp [legal24, schemeS, faxS, flateS]; omega) | (simp [legal24, schemeS, faxS, flateS, *]; done) | (simp [legal24, schemeS, faxS, flateS, *]; omega)
          rw [hL]
          clear hL
          go_enter Tryz.func9, Tryz.ntmps9
          go_wp2_with (first | (go_at_call 20; refine (scheme24_any H.out _).mono ?_; rintro e w1 ⟨rfl, h1⟩; have k6 := h1.cell 6 rfl; have k7 := h1.cell 7 rfl; have k9 := h1.cell 9 rfl; have k10 := h1.cell 10 rfl; have k13 := h1.cell 13 rfl; have H1 := Lib.hid h1; clear h1) | (go_at_call 21; refine (fax24_any _ _).mono ?_; rintro e w2 ⟨rfl, rfl⟩) | (go_at_call 22; refine (flates_any _ _).mono ?_; rintro e w3 ⟨rfl, rfl⟩))
          go_ret
          exact ⟨by first | rfl | (exact congrArg (fun b => Ending.returned (.bool b)) (by simp [*])), H1.out.right⟩
         ·have p16b : (wide != 16) = true := by simpa using p16
          by_cases p32 : wide = 32
          ·subst p32
           have hL : legal24 per 32 5 true two every how = true := by first | (simp [legal24, schemeS, faxS, flateS]; done) | (simp [legal24, schemeS, faxS, flateS]; omega) | (simp [legal24, schemeS, faxS, flateS, *]; done) | (simp [legal24, schemeS, faxS, flateS, *]; omega)
           rw [hL]
           clear hL
           go_enter Tryz.func9, Tryz.ntmps9
           go_wp2_with (first | (go_at_call 20; refine (scheme24_any H.out _).mono ?_; rintro e w1 ⟨rfl, h1⟩; have k6 := h1.cell 6 rfl; have k7 := h1.cell 7 rfl; have k9 := h1.cell 9 rfl; have k10 := h1.cell 10 rfl; have k13 := h1.cell 13 rfl; have H1 := Lib.hid h1; clear h1) | (go_at_call 21; refine (fax24_any _ _).mono ?_; rintro e w2 ⟨rfl, rfl⟩) | (go_at_call 22; refine (flates_any _ _).mono ?_; rintro e w3 ⟨rfl, rfl⟩))
           go_ret
           exact ⟨by first | rfl | (exact congrArg (fun b => Ending.returned (.bool b)) (by simp [*])), H1.out.right⟩
          ·have p32b : (wide != 32) = true := by simpa using p32
           have hL : legal24 per wide 5 true two every how = false := by first | (simp [legal24, schemeS, faxS, flateS]; done) | (simp [legal24, schemeS, faxS, flateS]; omega) | (simp [legal24, schemeS, faxS, flateS, *]; done) | (simp [legal24, schemeS, faxS, flateS, *]; omega)
           rw [hL]
           clear hL
           go_enter Tryz.func9, Tryz.ntmps9
           go_wp2_with (first | (go_at_call 20; refine (scheme24_any H.out _).mono ?_; rintro e w1 ⟨rfl, h1⟩; have k6 := h1.cell 6 rfl; have k7 := h1.cell 7 rfl; have k9 := h1.cell 9 rfl; have k10 := h1.cell 10 rfl; have k13 := h1.cell 13 rfl; have H1 := Lib.hid h1; clear h1) | (go_at_call 21; refine (fax24_any _ _).mono ?_; rintro e w2 ⟨rfl, rfl⟩) | (go_at_call 22; refine (flates_any _ _).mono ?_; rintro e w3 ⟨rfl, rfl⟩))
           go_ret
           exact ⟨by first | rfl | (exact congrArg (fun b => Ending.returned (.bool b)) (by simp [*])), H1.out.right⟩
       | false =>
        have hL : legal24 per wide 5 false two every how = true := by first | (simp [legal24, schemeS, faxS, flateS]; done) | (simp [legal24, schemeS, faxS, flateS]; omega) | (simp [legal24, schemeS, faxS, flateS, *]; done) | (simp [legal24, schemeS, faxS, flateS, *]; omega)
        rw [hL]
        clear hL
        go_enter Tryz.func9, Tryz.ntmps9
        go_wp2_with (first | (go_at_call 20; refine (scheme24_any H.out _).mono ?_; rintro e w1 ⟨rfl, h1⟩; have k6 := h1.cell 6 rfl; have k7 := h1.cell 7 rfl; have k9 := h1.cell 9 rfl; have k10 := h1.cell 10 rfl; have k13 := h1.cell 13 rfl; have H1 := Lib.hid h1; clear h1) | (go_at_call 21; refine (fax24_any _ _).mono ?_; rintro e w2 ⟨rfl, rfl⟩) | (go_at_call 22; refine (flates_any _ _).mono ?_; rintro e w3 ⟨rfl, rfl⟩))
        go_ret
        exact ⟨by first | rfl | (exact congrArg (fun b => Ending.returned (.bool b)) (by simp [*])), H1.out.right⟩
      ·cases predict with
       | true =>
        by_cases p8 : wide = 8
        ·subst p8
         by_cases g1 : 0 ≤ how
         ·have g1b : decide (0 ≤ how) = true := decide_eq_true g1
          by_cases g2 : how ≤ 2
          ·have g2b : decide (how ≤ 2) = true := decide_eq_true g2
           have hL : legal24 per 8 8 true two every how = true := by first | (simp [legal24, schemeS, faxS, flateS]; done) | (simp [legal24, schemeS, faxS, flateS]; omega) | (simp [legal24, schemeS, faxS, flateS, *]; done) | (simp [legal24, schemeS, faxS, flateS, *]; omega)
           rw [hL]
           clear hL
           go_enter Tryz.func9, Tryz.ntmps9
           go_wp2_with (first | (go_at_call 20; refine (scheme24_any H.out _).mono ?_; rintro e w1 ⟨rfl, h1⟩; have k6 := h1.cell 6 rfl; have k7 := h1.cell 7 rfl; have k9 := h1.cell 9 rfl; have k10 := h1.cell 10 rfl; have k13 := h1.cell 13 rfl; have H1 := Lib.hid h1; clear h1) | (go_at_call 21; refine (fax24_any _ _).mono ?_; rintro e w2 ⟨rfl, rfl⟩) | (go_at_call 22; refine (flates_any _ _).mono ?_; rintro e w3 ⟨rfl, rfl⟩))
           go_ret
           exact ⟨by first | rfl | (exact congrArg (fun b => Ending.returned (.bool b)) (by simp [*])), H1.out.right⟩
          ·have g2b : decide (how ≤ 2) = false := decide_eq_false g2
           have hL : legal24 per 8 8 true two every how = false := by first | (simp [legal24, schemeS, faxS, flateS]; done) | (simp [legal24, schemeS, faxS, flateS]; omega) | (simp [legal24, schemeS, faxS, flateS, *]; done) | (simp [legal24, schemeS, faxS, flateS, *]; omega)
           rw [hL]
           clear hL
           go_enter Tryz.func9, Tryz.ntmps9
           go_wp2_with (first | (go_at_call 20; refine (scheme24_any H.out _).mono ?_; rintro e w1 ⟨rfl, h1⟩; have k6 := h1.cell 6 rfl; have k7 := h1.cell 7 rfl; have k9 := h1.cell 9 rfl; have k10 := h1.cell 10 rfl; have k13 := h1.cell 13 rfl; have H1 := Lib.hid h1; clear h1) | (go_at_call 21; refine (fax24_any _ _).mono ?_; rintro e w2 ⟨rfl, rfl⟩) | (go_at_call 22; refine (flates_any _ _).mono ?_; rintro e w3 ⟨rfl, rfl⟩))
           go_ret
           exact ⟨by first | rfl | (exact congrArg (fun b => Ending.returned (.bool b)) (by simp [*])), H1.out.right⟩
         ·have g1b : decide (0 ≤ how) = false := decide_eq_false g1
          have hL : legal24 per 8 8 true two every how = false := by first | (simp [legal24, schemeS, faxS, flateS]; done) | (simp [legal24, schemeS, faxS, flateS]; omega) | (simp [legal24, schemeS, faxS, flateS, *]; done) | (simp [legal24, schemeS, faxS, flateS, *]; omega)
          rw [hL]
          clear hL
          go_enter Tryz.func9, Tryz.ntmps9
          go_wp2_with (first | (go_at_call 20; refine (scheme24_any H.out _).mono ?_; rintro e w1 ⟨rfl, h1⟩; have k6 := h1.cell 6 rfl; have k7 := h1.cell 7 rfl; have k9 := h1.cell 9 rfl; have k10 := h1.cell 10 rfl; have k13 := h1.cell 13 rfl; have H1 := Lib.hid h1; clear h1) | (go_at_call 21; refine (fax24_any _ _).mono ?_; rintro e w2 ⟨rfl, rfl⟩) | (go_at_call 22; refine (flates_any _ _).mono ?_; rintro e w3 ⟨rfl, rfl⟩))
          go_ret
          exact ⟨by first | rfl | (exact congrArg (fun b => Ending.returned (.bool b)) (by simp [*])), H1.out.right⟩
        ·have p8b : (wide != 8) = true := by simpa using p8
         by_cases p16 : wide = 16
         ·subst p16
          by_cases g1 : 0 ≤ how
          ·have g1b : decide (0 ≤ how) = true := decide_eq_true g1
           by_cases g2 : how ≤ 2
           ·have g2b : decide (how ≤ 2) = true := decide_eq_true g2
            have hL : legal24 per 16 8 true two every how = true := by first | (simp [legal24, schemeS, faxS, flateS]; done) | (simp [legal24, schemeS, faxS, flateS]; omega) | (simp [legal24, schemeS, faxS, flateS, *]; done) | (simp [legal24, schemeS, faxS, flateS, *]; omega)
            rw [hL]
            clear hL
            go_enter Tryz.func9, Tryz.ntmps9
            go_wp2_with (first | (go_at_call 20; refine (scheme24_any H.out _).mono ?_; rintro e w1 ⟨rfl, h1⟩; have k6 := h1.cell 6 rfl; have k7 := h1.cell 7 rfl; have k9 := h1.cell 9 rfl; have k10 := h1.cell 10 rfl; have k13 := h1.cell 13 rfl; have H1 := Lib.hid h1; clear h1) | (go_at_call 21; refine (fax24_any _ _).mono ?_; rintro e w2 ⟨rfl, rfl⟩) | (go_at_call 22; refine (flates_any _ _).mono ?_; rintro e w3 ⟨rfl, rfl⟩))
            go_ret
            exact ⟨by first | rfl | (exact congrArg (fun b => Ending.returned (.bool b)) (by simp [*])), H1.out.right⟩
           ·have g2b : decide (how ≤ 2) = false := decide_eq_false g2
            have hL : legal24 per 16 8 true two every how = false := by first | (simp [legal24, schemeS, faxS, flateS]; done) | (simp [legal24, schemeS, faxS, flateS]; omega) | (simp [legal24, schemeS, faxS, flateS, *]; done) | (simp [legal24, schemeS, faxS, flateS, *]; omega)
            rw [hL]
            clear hL
            go_enter Tryz.func9, Tryz.ntmps9
            go_wp2_with (first | (go_at_call 20; refine (scheme24_any H.out _).mono ?_; rintro e w1 ⟨rfl, h1⟩; have k6 := h1.cell 6 rfl; have k7 := h1.cell 7 rfl; have k9 := h1.cell 9 rfl; have k10 := h1.cell 10 rfl; have k13 := h1.cell 13 rfl; have H1 := Lib.hid h1; clear h1) | (go_at_call 21; refine (fax24_any _ _).mono ?_; rintro e w2 ⟨rfl, rfl⟩) | (go_at_call 22; refine (flates_any _ _).mono ?_; rintro e w3 ⟨rfl, rfl⟩))
            go_ret
            exact ⟨by first | rfl | (exact congrArg (fun b => Ending.returned (.bool b)) (by simp [*])), H1.out.right⟩
          ·have g1b : decide (0 ≤ how) = false := decide_eq_false g1
           have hL : legal24 per 16 8 true two every how = false := by first | (simp [legal24, schemeS, faxS, flateS]; done) | (simp [legal24, schemeS, faxS, flateS]; omega) | (simp [legal24, schemeS, faxS, flateS, *]; done) | (simp [legal24, schemeS, faxS, flateS, *]; omega)
           rw [hL]
           clear hL
           go_enter Tryz.func9, Tryz.ntmps9
           go_wp2_with (first | (go_at_call 20; refine (scheme24_any H.out _).mono ?_; rintro e w1 ⟨rfl, h1⟩; have k6 := h1.cell 6 rfl; have k7 := h1.cell 7 rfl; have k9 := h1.cell 9 rfl; have k10 := h1.cell 10 rfl; have k13 := h1.cell 13 rfl; have H1 := Lib.hid h1; clear h1) | (go_at_call 21; refine (fax24_any _ _).mono ?_; rintro e w2 ⟨rfl, rfl⟩) | (go_at_call 22; refine (flates_any _ _).mono ?_; rintro e w3 ⟨rfl, rfl⟩))
           go_ret
           exact ⟨by first | rfl | (exact congrArg (fun b => Ending.returned (.bool b)) (by simp [*])), H1.out.right⟩
         ·have p16b : (wide != 16) = true := by simpa using p16
          by_cases p32 : wide = 32
          ·subst p32
           by_cases g1 : 0 ≤ how
           ·have g1b : decide (0 ≤ how) = true := decide_eq_true g1
            by_cases g2 : how ≤ 2
            ·have g2b : decide (how ≤ 2) = true := decide_eq_true g2
             have hL : legal24 per 32 8 true two every how = true := by first | (simp [legal24, schemeS, faxS, flateS]; done) | (simp [legal24, schemeS, faxS, flateS]; omega) | (simp [legal24, schemeS, faxS, flateS, *]; done) | (simp [legal24, schemeS, faxS, flateS, *]; omega)
             rw [hL]
             clear hL
             go_enter Tryz.func9, Tryz.ntmps9
             go_wp2_with (first | (go_at_call 20; refine (scheme24_any H.out _).mono ?_; rintro e w1 ⟨rfl, h1⟩; have k6 := h1.cell 6 rfl; have k7 := h1.cell 7 rfl; have k9 := h1.cell 9 rfl; have k10 := h1.cell 10 rfl; have k13 := h1.cell 13 rfl; have H1 := Lib.hid h1; clear h1) | (go_at_call 21; refine (fax24_any _ _).mono ?_; rintro e w2 ⟨rfl, rfl⟩) | (go_at_call 22; refine (flates_any _ _).mono ?_; rintro e w3 ⟨rfl, rfl⟩))
             go_ret
             exact ⟨by first | rfl | (exact congrArg (fun b => Ending.returned (.bool b)) (by simp [*])), H1.out.right⟩
            ·have g2b : decide (how ≤ 2) = false := decide_eq_false g2
             have hL : legal24 per 32 8 true two every how = false := by first | (simp [legal24, schemeS, faxS, flateS]; done) | (simp [legal24, schemeS, faxS, flateS]; omega) | (simp [legal24, schemeS, faxS, flateS, *]; done) | (simp [legal24, schemeS, faxS, flateS, *]; omega)
             rw [hL]
             clear hL
             go_enter Tryz.func9, Tryz.ntmps9
             go_wp2_with (first | (go_at_call 20; refine (scheme24_any H.out _).mono ?_; rintro e w1 ⟨rfl, h1⟩; have k6 := h1.cell 6 rfl; have k7 := h1.cell 7 rfl; have k9 := h1.cell 9 rfl; have k10 := h1.cell 10 rfl; have k13 := h1.cell 13 rfl; have H1 := Lib.hid h1; clear h1) | (go_at_call 21; refine (fax24_any _ _).mono ?_; rintro e w2 ⟨rfl, rfl⟩) | (go_at_call 22; refine (flates_any _ _).mono ?_; rintro e w3 ⟨rfl, rfl⟩))
             go_ret
             exact ⟨by first | rfl | (exact congrArg (fun b => Ending.returned (.bool b)) (by simp [*])), H1.out.right⟩
           ·have g1b : decide (0 ≤ how) = false := decide_eq_false g1
            have hL : legal24 per 32 8 true two every how = false := by first | (simp [legal24, schemeS, faxS, flateS]; done) | (simp [legal24, schemeS, faxS, flateS]; omega) | (simp [legal24, schemeS, faxS, flateS, *]; done) | (simp [legal24, schemeS, faxS, flateS, *]; omega)
            rw [hL]
            clear hL
            go_enter Tryz.func9, Tryz.ntmps9
            go_wp2_with (first | (go_at_call 20; refine (scheme24_any H.out _).mono ?_; rintro e w1 ⟨rfl, h1⟩; have k6 := h1.cell 6 rfl; have k7 := h1.cell 7 rfl; have k9 := h1.cell 9 rfl; have k10 := h1.cell 10 rfl; have k13 := h1.cell 13 rfl; have H1 := Lib.hid h1; clear h1) | (go_at_call 21; refine (fax24_any _ _).mono ?_; rintro e w2 ⟨rfl, rfl⟩) | (go_at_call 22; refine (flates_any _ _).mono ?_; rintro e w3 ⟨rfl, rfl⟩))
            go_ret
            exact ⟨by first | rfl | (exact congrArg (fun b => Ending.returned (.bool b)) (by simp [*])), H1.out.right⟩
          ·have p32b : (wide != 32) = true := by simpa using p32
           have hL : legal24 per wide 8 true two every how = false := by first | (simp [legal24, schemeS, faxS, flateS]; done) | (simp [legal24, schemeS, faxS, flateS]; omega) | (simp [legal24, schemeS, faxS, flateS, *]; done) | (simp [legal24, schemeS, faxS, flateS, *]; omega)
           rw [hL]
           clear hL
           go_enter Tryz.func9, Tryz.ntmps9
           go_wp2_with (first | (go_at_call 20; refine (scheme24_any H.out _).mono ?_; rintro e w1 ⟨rfl, h1⟩; have k6 := h1.cell 6 rfl; have k7 := h1.cell 7 rfl; have k9 := h1.cell 9 rfl; have k10 := h1.cell 10 rfl; have k13 := h1.cell 13 rfl; have H1 := Lib.hid h1; clear h1) | (go_at_call 21; refine (fax24_any _ _).mono ?_; rintro e w2 ⟨rfl, rfl⟩) | (go_at_call 22; refine (flates_any _ _).mono ?_; rintro e w3 ⟨rfl, rfl⟩))
           go_ret
           exact ⟨by first | rfl | (exact congrArg (fun b => Ending.returned (.bool b)) (by simp [*])), H1.out.right⟩
       | false =>
        by_cases g1 : 0 ≤ how
        ·have g1b : decide (0 ≤ how) = true := decide_eq_true g1
         by_cases g2 : how ≤ 2
         ·have g2b : decide (how ≤ 2) = true := decide_eq_true g2
          have hL : legal24 per wide 8 false two every how = true := by first | (simp [legal24, schemeS, faxS, flateS]; done) | (simp [legal24, schemeS, faxS, flateS]; omega) | (simp [legal24, schemeS, faxS, flateS, *]; done) | (simp [legal24, schemeS, faxS, flateS, *]; omega)
          rw [hL]
          clear hL
          go_enter Tryz.func9, Tryz.ntmps9
          go_wp2_with (first | (go_at_call 20; refine (scheme24_any H.out _).mono ?_; rintro e w1 ⟨rfl, h1⟩; have k6 := h1.cell 6 rfl; have k7 := h1.cell 7 rfl; have k9 := h1.cell 9 rfl; have k10 := h1.cell 10 rfl; have k13 := h1.cell 13 rfl; have H1 := Lib.hid h1; clear h1) | (go_at_call 21; refine (fax24_any _ _).mono ?_; rintro e w2 ⟨rfl, rfl⟩) | (go_at_call 22; refine (flates_any _ _).mono ?_; rintro e w3 ⟨rfl, rfl⟩))
          go_ret
          exact ⟨by first | rfl | (exact congrArg (fun b => Ending.returned (.bool b)) (by simp [*])), H1.out.right⟩
         ·have g2b : decide (how ≤ 2) = false := decide_eq_false g2
          have hL : legal24 per wide 8 false two every how = false := by first | (simp [legal24, schemeS, faxS, flateS]; done) | (simp [legal24, schemeS, faxS, flateS]; omega) | (simp [legal24, schemeS, faxS, flateS, *]; done) | (simp [legal24, schemeS, faxS, flateS, *]; omega)
          rw [hL]
          clear hL
          go_enter Tryz.func9, Tryz.ntmps9
          go_wp2_with (first | (go_at_call 20; refine (scheme24_any H.out _).mono ?_; rintro e w1 ⟨rfl, h1⟩; have k6 := h1.cell 6 rfl; have k7 := h1.cell 7 rfl; have k9 := h1.cell 9 rfl; have k10 := h1.cell 10 rfl; have k13 := h1.cell 13 rfl; have H1 := Lib.hid h1; clear h1) | (go_at_call 21; refine (fax24_any _ _).mono ?_; rintro e w2 ⟨rfl, rfl⟩) | (go_at_call 22; refine (flates_any _ _).mono ?_; rintro e w3 ⟨rfl, rfl⟩))
          go_ret
          exact ⟨by first | rfl | (exact congrArg (fun b => Ending.returned (.bool b)) (by simp [*])), H1.out.right⟩
        ·have g1b : decide (0 ≤ how) = false := decide_eq_false g1
         have hL : legal24 per wide 8 false two every how = false := by first | (simp [legal24, schemeS, faxS, flateS]; done) | (simp [legal24, schemeS, faxS, flateS]; omega) | (simp [legal24, schemeS, faxS, flateS, *]; done) | (simp [legal24, schemeS, faxS, flateS, *]; omega)
         rw [hL]
         clear hL
         go_enter Tryz.func9, Tryz.ntmps9
         go_wp2_with (first | (go_at_call 20; refine (scheme24_any H.out _).mono ?_; rintro e w1 ⟨rfl, h1⟩; have k6 := h1.cell 6 rfl; have k7 := h1.cell 7 rfl; have k9 := h1.cell 9 rfl; have k10 := h1.cell 10 rfl; have k13 := h1.cell 13 rfl; have H1 := Lib.hid h1; clear h1) | (go_at_call 21; refine (fax24_any _ _).mono ?_; rintro e w2 ⟨rfl, rfl⟩) | (go_at_call 22; refine (flates_any _ _).mono ?_; rintro e w3 ⟨rfl, rfl⟩))
         go_ret
         exact ⟨by first | rfl | (exact congrArg (fun b => Ending.returned (.bool b)) (by simp [*])), H1.out.right⟩
      ·cases predict with
       | true =>
        have hL : legal24 per wide 32773 true two every how = false := by first | (simp [legal24, schemeS, faxS, flateS]; done) | (simp [legal24, schemeS, faxS, flateS]; omega) | (simp [legal24, schemeS, faxS, flateS, *]; done) | (simp [legal24, schemeS, faxS, flateS, *]; omega)
        rw [hL]
        clear hL
        go_enter Tryz.func9, Tryz.ntmps9
        go_wp2_with (first | (go_at_call 20; refine (scheme24_any H.out _).mono ?_; rintro e w1 ⟨rfl, h1⟩; have k6 := h1.cell 6 rfl; have k7 := h1.cell 7 rfl; have k9 := h1.cell 9 rfl; have k10 := h1.cell 10 rfl; have k13 := h1.cell 13 rfl; have H1 := Lib.hid h1; clear h1) | (go_at_call 21; refine (fax24_any _ _).mono ?_; rintro e w2 ⟨rfl, rfl⟩) | (go_at_call 22; refine (flates_any _ _).mono ?_; rintro e w3 ⟨rfl, rfl⟩))
        go_ret
        exact ⟨by first | rfl | (exact congrArg (fun b => Ending.returned (.bool b)) (by simp [*])), H1.out.right⟩
       | false =>
        have hL : legal24 per wide 32773 false two every how = true := by first | (simp [legal24, schemeS, faxS, flateS]; done) | (simp [legal24, schemeS, faxS, flateS]; omega) | (simp [legal24, schemeS, faxS, flateS, *]; done) | (simp [legal24, schemeS, faxS, flateS, *]; omega)
        rw [hL]
        clear hL
        go_enter Tryz.func9, Tryz.ntmps9
        go_wp2_with (first | (go_at_call 20; refine (scheme24_any H.out _).mono ?_; rintro e w1 ⟨rfl, h1⟩; have k6 := h1.cell 6 rfl; have k7 := h1.cell 7 rfl; have k9 := h1.cell 9 rfl; have k10 := h1.cell 10 rfl; have k13 := h1.cell 13 rfl; have H1 := Lib.hid h1; clear h1) | (go_at_call 21; refine (fax24_any _ _).mono ?_; rintro e w2 ⟨rfl, rfl⟩) | (go_at_call 22; refine (flates_any _ _).mono ?_; rintro e w3 ⟨rfl, rfl⟩))
        go_ret
        exact ⟨by first | rfl | (exact congrArg (fun b => Ending.returned (.bool b)) (by simp [*])), H1.out.right⟩
      ·cases predict with
       | true =>
        by_cases p8 : wide = 8
        ·subst p8
         by_cases g1 : 0 ≤ how
         ·have g1b : decide (0 ≤ how) = true := decide_eq_true g1
          by_cases g2 : how ≤ 2
          ·have g2b : decide (how ≤ 2) = true := decide_eq_true g2
           have hL : legal24 per 8 32946 true two every how = true := by first | (simp [legal24, schemeS, faxS, flateS]; done) | (simp [legal24, schemeS, faxS, flateS]; omega) | (simp [legal24, schemeS, faxS, flateS, *]; done) | (simp [legal24, schemeS, faxS, flateS, *]; omega)
           rw [hL]
           clear hL
           go_enter Tryz.func9, Tryz.ntmps9
           go_wp2_with (first | (go_at_call 20; refine (scheme24_any H.out _).mono ?_; rintro e w1 ⟨rfl, h1⟩; have k6 := h1.cell 6 rfl; have k7 := h1.cell 7 rfl; have k9 := h1.cell 9 rfl; have k10 := h1.cell 10 rfl; have k13 := h1.cell 13 rfl; have H1 := Lib.hid h1; clear h1) | (go_at_call 21; refine (fax24_any _ _).mono ?_; rintro e w2 ⟨rfl, rfl⟩) | (go_at_call 22; refine (flates_any _ _).mono ?_; rintro e w3 ⟨rfl, rfl⟩))
           go_ret
           exact ⟨by first | rfl | (exact congrArg (fun b => Ending.returned (.bool b)) (by simp [*])), H1.out.right⟩
          ·have g2b : decide (how ≤ 2) = false := decide_eq_false g2
           have hL : legal24 per 8 32946 true two every how = false := by first | (simp [legal24, schemeS, faxS, flateS]; done) | (simp [legal24, schemeS, faxS, flateS]; omega) | (simp [legal24, schemeS, faxS, flateS, *]; done) | (simp [legal24, schemeS, faxS, flateS, *]; omega)
           rw [hL]
           clear hL
           go_enter Tryz.func9, Tryz.ntmps9
           go_wp2_with (first | (go_at_call 20; refine (scheme24_any H.out _).mono ?_; rintro e w1 ⟨rfl, h1⟩; have k6 := h1.cell 6 rfl; have k7 := h1.cell 7 rfl; have k9 := h1.cell 9 rfl; have k10 := h1.cell 10 rfl; have k13 := h1.cell 13 rfl; have H1 := Lib.hid h1; clear h1) | (go_at_call 21; refine (fax24_any _ _).mono ?_; rintro e w2 ⟨rfl, rfl⟩) | (go_at_call 22; refine (flates_any _ _).mono ?_; rintro e w3 ⟨rfl, rfl⟩))
           go_ret
           exact ⟨by first | rfl | (exact congrArg (fun b => Ending.returned (.bool b)) (by simp [*])), H1.out.right⟩
         ·have g1b : decide (0 ≤ how) = false := decide_eq_false g1
          have hL : legal24 per 8 32946 true two every how = false := by first | (simp [legal24, schemeS, faxS, flateS]; done) | (simp [legal24, schemeS, faxS, flateS]; omega) | (simp [legal24, schemeS, faxS, flateS, *]; done) | (simp [legal24, schemeS, faxS, flateS, *]; omega)
          rw [hL]
          clear hL
          go_enter Tryz.func9, Tryz.ntmps9
          go_wp2_with (first | (go_at_call 20; refine (scheme24_any H.out _).mono ?_; rintro e w1 ⟨rfl, h1⟩; have k6 := h1.cell 6 rfl; have k7 := h1.cell 7 rfl; have k9 := h1.cell 9 rfl; have k10 := h1.cell 10 rfl; have k13 := h1.cell 13 rfl; have H1 := Lib.hid h1; clear h1) | (go_at_call 21; refine (fax24_any _ _).mono ?_; rintro e w2 ⟨rfl, rfl⟩) | (go_at_call 22; refine (flates_any _ _).mono ?_; rintro e w3 ⟨rfl, rfl⟩))
          go_ret
          exact ⟨by first | rfl | (exact congrArg (fun b => Ending.returned (.bool b)) (by simp [*])), H1.out.right⟩
        ·have p8b : (wide != 8) = true := by simpa using p8
         by_cases p16 : wide = 16
         ·subst p16
          by_cases g1 : 0 ≤ how
          ·have g1b : decide (0 ≤ how) = true := decide_eq_true g1
           by_cases g2 : how ≤ 2
           ·have g2b : decide (how ≤ 2) = true := decide_eq_true g2
            have hL : legal24 per 16 32946 true two every how = true := by first | (simp [legal24, schemeS, faxS, flateS]; done) | (simp [legal24, schemeS, faxS, flateS]; omega) | (simp [legal24, schemeS, faxS, flateS, *]; done) | (simp [legal24, schemeS, faxS, flateS, *]; omega)
            rw [hL]
            clear hL
            go_enter Tryz.func9, Tryz.ntmps9
            go_wp2_with (first | (go_at_call 20; refine (scheme24_any H.out _).mono ?_; rintro e w1 ⟨rfl, h1⟩; have k6 := h1.cell 6 rfl; have k7 := h1.cell 7 rfl; have k9 := h1.cell 9 rfl; have k10 := h1.cell 10 rfl; have k13 := h1.cell 13 rfl; have H1 := Lib.hid h1; clear h1) | (go_at_call 21; refine (fax24_any _ _).mono ?_; rintro e w2 ⟨rfl, rfl⟩) | (go_at_call 22; refine (flates_any _ _).mono ?_; rintro e w3 ⟨rfl, rfl⟩))
            go_ret
            exact ⟨by first | rfl | (exact congrArg (fun b => Ending.returned (.bool b)) (by simp [*])), H1.out.right⟩
           ·have g2b : decide (how ≤ 2) = false := decide_eq_false g2
            have hL : legal24 per 16 32946 true two every how = false := by first | (simp [legal24, schemeS, faxS, flateS]; done) | (simp [legal24, schemeS, faxS, flateS]; omega) | (simp [legal24, schemeS, faxS, flateS, *]; done) | (simp [legal24, schemeS, faxS, flateS, *]; omega)
            rw [hL]
            clear hL
            go_enter Tryz.func9, Tryz.ntmps9
            go_wp2_with (first | (go_at_call 20; refine (scheme24_any H.out _).mono ?_; rintro e w1 ⟨rfl, h1⟩; have k6 := h1.cell 6 rfl; have k7 := h1.cell 7 rfl; have k9 := h1.cell 9 rfl; have k10 := h1.cell 10 rfl; have k13 := h1.cell 13 rfl; have H1 := Lib.hid h1; clear h1) | (go_at_call 21; refine (fax24_any _ _).mono ?_; rintro e w2 ⟨rfl, rfl⟩) | (go_at_call 22; refine (flates_any _ _).mono ?_; rintro e w3 ⟨rfl, rfl⟩))
            go_ret
            exact ⟨by first | rfl | (exact congrArg (fun b => Ending.returned (.bool b)) (by simp [*])), H1.out.right⟩
          ·have g1b : decide (0 ≤ how) = false := decide_eq_false g1
           have hL : legal24 per 16 32946 true two every how = false := by first | (simp [legal24, schemeS, faxS, flateS]; done) | (simp [legal24, schemeS, faxS, flateS]; omega) | (simp [legal24, schemeS, faxS, flateS, *]; done) | (simp [legal24, schemeS, faxS, flateS, *]; omega)
           rw [hL]
           clear hL
           go_enter Tryz.func9, Tryz.ntmps9
           go_wp2_with (first | (go_at_call 20; refine (scheme24_any H.out _).mono ?_; rintro e w1 ⟨rfl, h1⟩; have k6 := h1.cell 6 rfl; have k7 := h1.cell 7 rfl; have k9 := h1.cell 9 rfl; have k10 := h1.cell 10 rfl; have k13 := h1.cell 13 rfl; have H1 := Lib.hid h1; clear h1) | (go_at_call 21; refine (fax24_any _ _).mono ?_; rintro e w2 ⟨rfl, rfl⟩) | (go_at_call 22; refine (flates_any _ _).mono ?_; rintro e w3 ⟨rfl, rfl⟩))
           go_ret
           exact ⟨by first | rfl | (exact congrArg (fun b => Ending.returned (.bool b)) (by simp [*])), H1.out.right⟩
         ·have p16b : (wide != 16) = true := by simpa using p16
          by_cases p32 : wide = 32
          ·subst p32
           by_cases g1 : 0 ≤ how
           ·have g1b : decide (0 ≤ how) = true := decide_eq_true g1
            by_cases g2 : how ≤ 2
            ·have g2b : decide (how ≤ 2) = true := decide_eq_true g2
             have hL : legal24 per 32 32946 true two every how = true := by first | (simp [legal24, schemeS, faxS, flateS]; done) | (simp [legal24, schemeS, faxS, flateS]; omega) | (simp [legal24, schemeS, faxS, flateS, *]; done) | (simp [legal24, schemeS, faxS, flateS, *]; omega)
             rw [hL]
             clear hL
             go_enter Tryz.func9, Tryz.ntmps9
             go_wp2_with (first | (go_at_call 20; refine (scheme24_any H.out _).mono ?_; rintro e w1 ⟨rfl, h1⟩; have k6 := h1.cell 6 rfl; have k7 := h1.cell 7 rfl; have k9 := h1.cell 9 rfl; have k10 := h1.cell 10 rfl; have k13 := h1.cell 13 rfl; have H1 := Lib.hid h1; clear h1) | (go_at_call 21; refine (fax24_any _ _).mono ?_; rintro e w2 ⟨rfl, rfl⟩) | (go_at_call 22; refine (flates_any _ _).mono ?_; rintro e w3 ⟨rfl, rfl⟩))
             go_ret
             exact ⟨by first | rfl | (exact congrArg (fun b => Ending.returned (.bool b)) (by simp [*])), H1.out.right⟩
            ·have g2b : decide (how ≤ 2) = false := decide_eq_false g2
             have hL : legal24 per 32 32946 true two every how = false := by first | (simp [legal24, schemeS, faxS, flateS]; done) | (simp [legal24, schemeS, faxS, flateS]; omega) | (simp [legal24, schemeS, faxS, flateS, *]; done) | (simp [legal24, schemeS, faxS, flateS, *]; omega)
             rw [hL]
             clear hL
             go_enter Tryz.func9, Tryz.ntmps9
             go_wp2_with (first | (go_at_call 20; refine (scheme24_any H.out _).mono ?_; rintro e w1 ⟨rfl, h1⟩; have k6 := h1.cell 6 rfl; have k7 := h1.cell 7 rfl; have k9 := h1.cell 9 rfl; have k10 := h1.cell 10 rfl; have k13 := h1.cell 13 rfl; have H1 := Lib.hid h1; clear h1) | (go_at_call 21; refine (fax24_any _ _).mono ?_; rintro e w2 ⟨rfl, rfl⟩) | (go_at_call 22; refine (flates_any _ _).mono ?_; rintro e w3 ⟨rfl, rfl⟩))
             go_ret
             exact ⟨by first | rfl | (exact congrArg (fun b => Ending.returned (.bool b)) (by simp [*])), H1.out.right⟩
           ·have g1b : decide (0 ≤ how) = false := decide_eq_false g1
            have hL : legal24 per 32 32946 true two every how = false := by first | (simp [legal24, schemeS, faxS, flateS]; done) | (simp [legal24, schemeS, faxS, flateS]; omega) | (simp [legal24, schemeS, faxS, flateS, *]; done) | (simp [legal24, schemeS, faxS, flateS, *]; omega)
            rw [hL]
            clear hL
            go_enter Tryz.func9, Tryz.ntmps9
            go_wp2_with (first | (go_at_call 20; refine (scheme24_any H.out _).mono ?_; rintro e w1 ⟨rfl, h1⟩; have k6 := h1.cell 6 rfl; have k7 := h1.cell 7 rfl; have k9 := h1.cell 9 rfl; have k10 := h1.cell 10 rfl; have k13 := h1.cell 13 rfl; have H1 := Lib.hid h1; clear h1) | (go_at_call 21; refine (fax24_any _ _).mono ?_; rintro e w2 ⟨rfl, rfl⟩) | (go_at_call 22; refine (flates_any _ _).mono ?_; rintro e w3 ⟨rfl, rfl⟩))
            go_ret
            exact ⟨by first | rfl | (exact congrArg (fun b => Ending.returned (.bool b)) (by simp [*])), H1.out.right⟩
          ·have p32b : (wide != 32) = true := by simpa using p32
           have hL : legal24 per wide 32946 true two every how = false := by first | (simp [legal24, schemeS, faxS, flateS]; done) | (simp [legal24, schemeS, faxS, flateS]; omega) | (simp [legal24, schemeS, faxS, flateS, *]; done) | (simp [legal24, schemeS, faxS, flateS, *]; omega)
           rw [hL]
           clear hL
           go_enter Tryz.func9, Tryz.ntmps9
           go_wp2_with (first | (go_at_call 20; refine (scheme24_any H.out _).mono ?_; rintro e w1 ⟨rfl, h1⟩; have k6 := h1.cell 6 rfl; have k7 := h1.cell 7 rfl; have k9 := h1.cell 9 rfl; have k10 := h1.cell 10 rfl; have k13 := h1.cell 13 rfl; have H1 := Lib.hid h1; clear h1) | (go_at_call 21; refine (fax24_any _ _).mono ?_; rintro e w2 ⟨rfl, rfl⟩) | (go_at_call 22; refine (flates_any _ _).mono ?_; rintro e w3 ⟨rfl, rfl⟩))
           go_ret
           exact ⟨by first | rfl | (exact congrArg (fun b => Ending.returned (.bool b)) (by simp [*])), H1.out.right⟩
       | false =>
        by_cases g1 : 0 ≤ how
        ·have g1b : decide (0 ≤ how) = true := decide_eq_true g1
         by_cases g2 : how ≤ 2
         ·have g2b : decide (how ≤ 2) = true := decide_eq_true g2
          have hL : legal24 per wide 32946 false two every how = true := by first | (simp [legal24, schemeS, faxS, flateS]; done) | (simp [legal24, schemeS, faxS, flateS]; omega) | (simp [legal24, schemeS, faxS, flateS, *]; done) | (simp [legal24, schemeS, faxS, flateS, *]; omega)
          rw [hL]
          clear hL
          go_enter Tryz.func9, Tryz.ntmps9
          go_wp2_with (first | (go_at_call 20; refine (scheme24_any H.out _).mono ?_; rintro e w1 ⟨rfl, h1⟩; have k6 := h1.cell 6 rfl; have k7 := h1.cell 7 rfl; have k9 := h1.cell 9 rfl; have k10 := h1.cell 10 rfl; have k13 := h1.cell 13 rfl; have H1 := Lib.hid h1; clear h1) | (go_at_call 21; refine (fax24_any _ _).mono ?_; rintro e w2 ⟨rfl, rfl⟩) | (go_at_call 22; refine (flates_any _ _).mono ?_; rintro e w3 ⟨rfl, rfl⟩))
          go_ret
          exact ⟨by first | rfl | (exact congrArg (fun b => Ending.returned (.bool b)) (by simp [*])), H1.out.right⟩
         ·have g2b : decide (how ≤ 2) = false := decide_eq_false g2
          have hL : legal24 per wide 32946 false two every how = false := by first | (simp [legal24, schemeS, faxS, flateS]; done) | (simp [legal24, schemeS, faxS, flateS]; omega) | (simp [legal24, schemeS, faxS, flateS, *]; done) | (simp [legal24, schemeS, faxS, flateS, *]; omega)
          rw [hL]
          clear hL
          go_enter Tryz.func9, Tryz.ntmps9
          go_wp2_with (first | (go_at_call 20; refine (scheme24_any H.out _).mono ?_; rintro e w1 ⟨rfl, h1⟩; have k6 := h1.cell 6 rfl; have k7 := h1.cell 7 rfl; have k9 := h1.cell 9 rfl; have k10 := h1.cell 10 rfl; have k13 := h1.cell 13 rfl; have H1 := Lib.hid h1; clear h1) | (go_at_call 21; refine (fax24_any _ _).mono ?_; rintro e w2 ⟨rfl, rfl⟩) | (go_at_call 22; refine (flates_any _ _).mono ?_; rintro e w3 ⟨rfl, rfl⟩))
          go_ret
          exact ⟨by first | rfl | (exact congrArg (fun b => Ending.returned (.bool b)) (by simp [*])), H1.out.right⟩
        ·have g1b : decide (0 ≤ how) = false := decide_eq_false g1
         have hL : legal24 per wide 32946 false two every how = false := by first | (simp [legal24, schemeS, faxS, flateS]; done) | (simp [legal24, schemeS, faxS, flateS]; omega) | (simp [legal24, schemeS, faxS, flateS, *]; done) | (simp [legal24, schemeS, faxS, flateS, *]; omega)
         rw [hL]
         clear hL
         go_enter Tryz.func9, Tryz.ntmps9
         go_wp2_with (first | (go_at_call 20; refine (scheme24_any H.out _).mono ?_; rintro e w1 ⟨rfl, h1⟩; have k6 := h1.cell 6 rfl; have k7 := h1.cell 7 rfl; have k9 := h1.cell 9 rfl; have k10 := h1.cell 10 rfl; have k13 := h1.cell 13 rfl; have H1 := Lib.hid h1; clear h1) | (go_at_call 21; refine (fax24_any _ _).mono ?_; rintro e w2 ⟨rfl, rfl⟩) | (go_at_call 22; refine (flates_any _ _).mono ?_; rintro e w3 ⟨rfl, rfl⟩))
         go_ret
         exact ⟨by first | rfl | (exact congrArg (fun b => Ending.returned (.bool b)) (by simp [*])), H1.out.right⟩
     ·have hL : legal24 per wide n predict two every how = false := by first | (simp [legal24, schemeS, faxS, flateS]; done) | (simp [legal24, schemeS, faxS, flateS]; omega) | (simp [legal24, schemeS, faxS, flateS, *]; done) | (simp [legal24, schemeS, faxS, flateS, *]; omega)
      rw [hL]
      clear hL
      go_enter Tryz.func9, Tryz.ntmps9
      go_wp2_with (first | (go_at_call 20; refine (scheme24_any H.out _).mono ?_; rintro e w1 ⟨rfl, h1⟩; have k6 := h1.cell 6 rfl; have k7 := h1.cell 7 rfl; have k9 := h1.cell 9 rfl; have k10 := h1.cell 10 rfl; have k13 := h1.cell 13 rfl; have H1 := Lib.hid h1; clear h1) | (go_at_call 21; refine (fax24_any _ _).mono ?_; rintro e w2 ⟨rfl, rfl⟩) | (go_at_call 22; refine (flates_any _ _).mono ?_; rintro e w3 ⟨rfl, rfl⟩))
      go_ret
      exact ⟨by first | rfl | (exact congrArg (fun b => Ending.returned (.bool b)) (by simp [*])), H1.out.right⟩
    ·have hL : legal24 per wide n predict two every how = false := by first | (simp [legal24, schemeS, faxS, flateS]; done) | (simp [legal24, schemeS, faxS, flateS]; omega) | (simp [legal24, schemeS, faxS, flateS, *]; done) | (simp [legal24, schemeS, faxS, flateS, *]; omega)
     rw [hL]
     clear hL
     go_enter Tryz.func9, Tryz.ntmps9
     go_wp2_with (first | (go_at_call 20; refine (scheme24_any H.out _).mono ?_; rintro e w1 ⟨rfl, h1⟩; have k6 := h1.cell 6 rfl; have k7 := h1.cell 7 rfl; have k9 := h1.cell 9 rfl; have k10 := h1.cell 10 rfl; have k13 := h1.cell 13 rfl; have H1 := Lib.hid h1; clear h1) | (go_at_call 21; refine (fax24_any _ _).mono ?_; rintro e w2 ⟨rfl, rfl⟩) | (go_at_call 22; refine (flates_any _ _).mono ?_; rintro e w3 ⟨rfl, rfl⟩))
     go_ret
     exact ⟨by first | rfl | (exact congrArg (fun b => Ending.returned (.bool b)) (by simp [*])), H1.out.right⟩
   ·have hL : legal24 per wide n predict two every how = false := by first | (simp [legal24, schemeS, faxS, flateS]; done) | (simp [legal24, schemeS, faxS, flateS]; omega) | (simp [legal24, schemeS, faxS, flateS, *]; done) | (simp [legal24, schemeS, faxS, flateS, *]; omega)
    rw [hL]
    clear hL
    go_enter Tryz.func9, Tryz.ntmps9
    go_wp2_with (first | (go_at_call 20; refine (scheme24_any H.out _).mono ?_; rintro e w1 ⟨rfl, h1⟩; have k6 := h1.cell 6 rfl; have k7 := h1.cell 7 rfl; have k9 := h1.cell 9 rfl; have k10 := h1.cell 10 rfl; have k13 := h1.cell 13 rfl; have H1 := Lib.hid h1; clear h1) | (go_at_call 21; refine (fax24_any _ _).mono ?_; rintro e w2 ⟨rfl, rfl⟩) | (go_at_call 22; refine (flates_any _ _).mono ?_; rintro e w3 ⟨rfl, rfl⟩))
    go_ret
    exact ⟨by first | rfl | (exact congrArg (fun b => Ending.returned (.bool b)) (by simp [*])), H1.out.right⟩
  ·have hL : legal24 per wide n predict two every how = false := by first | (simp [legal24, schemeS, faxS, flateS]; done) | (simp [legal24, schemeS, faxS, flateS]; omega) | (simp [legal24, schemeS, faxS, flateS, *]; done) | (simp [legal24, schemeS, faxS, flateS, *]; omega)
   rw [hL]
   clear hL
   go_enter Tryz.func9, Tryz.ntmps9
   go_wp2_with (first | (go_at_call 20; refine (scheme24_any H.out _).mono ?_; rintro e w1 ⟨rfl, h1⟩; have k6 := h1.cell 6 rfl; have k7 := h1.cell 7 rfl; have k9 := h1.cell 9 rfl; have k10 := h1.cell 10 rfl; have k13 := h1.cell 13 rfl; have H1 := Lib.hid h1; clear h1) | (go_at_call 21; refine (fax24_any _ _).mono ?_; rintro e w2 ⟨rfl, rfl⟩) | (go_at_call 22; refine (flates_any _ _).mono ?_; rintro e w3 ⟨rfl, rfl⟩))
   go_ret
   exact ⟨by first | rfl | (exact congrArg (fun b => Ending.returned (.bool b)) (by simp [*])), H1.out.right⟩
 ·have hS0 : schemeS n = false := by simpa using hS
  have hL : legal24 per wide n predict two every how = false := by first | (simp [legal24, hS0]; done) | (simp [legal24, schemeS, faxS, flateS]; done) | (simp [legal24, schemeS, faxS, flateS]; omega) | (simp [legal24, schemeS, faxS, flateS, *]; done) | (simp [legal24, schemeS, faxS, flateS, *]; omega)
  rw [hL]
  clear hL
  go_enter Tryz.func9, Tryz.ntmps9
  go_wp2_with (first | (go_at_call 20; refine (scheme24_any H.out _).mono ?_; rintro e w1 ⟨rfl, h1⟩; have k6 := h1.cell 6 rfl; have k7 := h1.cell 7 rfl; have k9 := h1.cell 9 rfl; have k10 := h1.cell 10 rfl; have k13 := h1.cell 13 rfl; have H1 := Lib.hid h1; clear h1) | (go_at_call 21; refine (fax24_any _ _).mono ?_; rintro e w2 ⟨rfl, rfl⟩) | (go_at_call 22; refine (flates_any _ _).mono ?_; rintro e w3 ⟨rfl, rfl⟩))
  go_ret
  exact ⟨by first | rfl | (exact congrArg (fun b => Ending.returned (.bool b)) (by simp [*])), H1.out.right⟩
end Go.Proofs.YtboflbdniogcdaaGreatDoor
