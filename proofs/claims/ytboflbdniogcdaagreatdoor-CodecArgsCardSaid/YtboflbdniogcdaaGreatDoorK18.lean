/-
  Parts of a proof.
-/
import Derived.Test.YtboflbdniogcdaaGreatDoorK16
import Derived.Test.YtboflbdniogcdaaGreatDoorK17
import Derived.Test.YtboflbdniogcdaaGreatDoorK02
import Derived.Deep.LoopGhost
import Derived.Deep.QuietTactic
import Derived.BigQuiet
namespace Go.Proofs.YtboflbdniogcdaaGreatDoor
open Go.RowKit Go.Mz
set_option linter.unusedVariables false
set_option linter.unusedSimpArgs false
set_option maxRecDepth 100000
theorem unTx_tx {l : List Nat} (h : Bit l) : unTx (tx l) = l := by
 induction l with
 | nil => rfl
 | cons c l ih =>
  have := h c (by simp)
  rw [tx_cons, unTx, List.map_cons, toNat_dg this]
  rw [unTx] at ih
  rw [ih fun b hb => h b (by simp [hb])]
  simp
theorem digB_of_tx {l : List Nat} (h : Bit l) : digB (tx l) = true := by
 induction l with
 | nil => rfl
 | cons c l ih =>
  have h1 := ih fun b hb => h b (by simp [hb])
  rw [tx_cons]
  simp only [digB, List.all_cons, Bool.and_eq_true] at h1 ⊢
  refine ⟨?_, h1⟩
  have := h c (by simp)
  rcases (show c = 0 ∨ c = 1 by omega) with rfl | rfl <;> rfl
def bkI (B : Nat) (W : List (List Nat)) (M : List Int) : SProp := sEx fun N : List Nd => lift (Trie N W) * bookI B N M (W.map tx)
theorem bkI_open {w0 w : World} {B : Nat} {W : List (List Nat)} {M : List Int} {F : SProp} (h : St w0 w (bkI B W M * F)) : ∃ N, Trie N W ∧ St w0 w (bookI B N M (W.map tx) * F) := by
 obtain ⟨N, h⟩ := h.ex_l
 have h := h.perm (star_assoc _ _ _)
 obtain ⟨h1, h2⟩ := h.pure_l
 exact ⟨N, h1, h2⟩
theorem bkI_shut {w0 w : World} {B : Nat} {N : List Nd} {W : List (List Nat)} {M : List Int} {F : SProp} (hT : Trie N W) (h : St w0 w (bookI B N M (W.map tx) * F)) : St w0 w (bkI B W M * F) :=
 St.mk_ex_l N ((St.mk_pure_l hT h).perm (star_assoc _ _ _).symm)
theorem bkI_new {w0 w : World} {F : SProp} {W : List (List Nat)} {M : List Int} {n : Nat} {vm vw : Value} (h : St w0 w (own 3 1 vm n (M.map iv) * (own 9 1 vw n (W.map txv) * F))) (hn : n = W.length) (hM : M.length = W.length)
  (hb : ∀ w ∈ W, Bit w) (pf : PF W) (hl : W.length ≤ 900) (h30 : ∀ w ∈ W, w.length ≤ 1000) :
  Calls Tryz.prog 138 #[vw, vm] w fun e w' => ∃ B, e = .returned (.tuple #[.pointer (some ⟨B, 0, none⟩), .int .i64 0]) ∧ St w0 w' (bkI B W M * F) := by
 subst hn
 obtain ⟨N, hN, hT⟩ := book_trie hb pf
 have e1 : W.map txv = (W.map tx).map svB := by rw [List.map_map]; rfl
 have hwl : (W.map tx).length = W.length := by simp
 rw [e1] at h
 have C := new_anyI (vw := vw) (vm := vm) h (W.map tx) M (by rw [hM, hwl]) (by rw [hwl]; exact hl) (fun i t ht => by
  rw [List.getElem?_map] at ht
  cases e : W[i]? with
  | none => rw [e] at ht; cases ht
  | some v =>
   rw [e] at ht
   cases ht
   rw [length_tx]; exact h30 v (List.mem_of_getElem? e)) (fun w h => by rw [hwl]; exact h.right.reads) (fun w h => by rw [hM]; exact h.reads) hN
 refine C.mono ?_
 rintro e w'' ⟨hok, _⟩
 obtain ⟨B, he, h5, _⟩ := hok rfl
 have h6 := ((h5.perm (star_left_comm _ _ _)).right.perm (star_left_comm _ _ _)).right
 exact ⟨B, he, bkI_shut hT h6⟩
theorem bkI_write {w0 w : World} {F : SProp} {B Wb : Nat} {W : List (List Nat)} {M : List Int} {l : List Nat} {low : Bool} (h : St w0 w (bkI B W M * (wrt Wb l low * F))) {j : Int} (i : Nat) (hj : j = i) {v : List Nat} (hi : W[i]? = some v) (hv : v ≠ []) (hb : Bit v) (h30 : v.length ≤ 1000) (hm : l.length ≤ 10000000000000) :
  Calls Tryz.prog 181 #[.pointer (some ⟨B, 0, none⟩), .pointer (some ⟨Wb, 0, none⟩), .int .i64 j] w fun e w' => e = .returned (.int .i64 0) ∧ St w0 w' (bkI B W M * (wrt Wb (l ++ v) low * F)) := by
 subst hj
 obtain ⟨N, hT, h⟩ := bkI_open h
 have hil : i < W.length := by obtain ⟨hx, _⟩ := List.getElem?_eq_some_iff.1 hi; exact hx
 have e : wAt (W.map tx) (i : Int) = tx v := by
  rw [wAt, if_pos (by rw [List.length_map]; omega), Int.toNat_natCast, List.getD_eq_getElem?_getD, List.getElem?_map, hi]; rfl
 have hne : tx v ≠ [] := fun h0 => hv (by simpa [tx] using h0)
 refine (hwrite_anyI h (i : Int) (by rw [e]; exact digB_of_tx hb) (by rw [e, length_tx]; omega) hm).mono ?_
 rintro e' w' ⟨rfl, h2⟩
 rw [e, if_neg hne, unTx_tx hb] at *
 exact ⟨rfl, bkI_shut hT h2⟩
def bkM (B : Nat) (W : List (List Nat)) (M : List Int) : SProp := sEx fun N : List Nd => lift (Trie N W) * bookM B N M (W.map tx)
theorem bkM_open {w0 w : World} {B : Nat} {W : List (List Nat)} {M : List Int} {F : SProp} (h : St w0 w (bkM B W M * F)) : ∃ N, Trie N W ∧ St w0 w (bookM B N M (W.map tx) * F) := by
 obtain ⟨N, h⟩ := h.ex_l
 have h := h.perm (star_assoc _ _ _)
 obtain ⟨h1, h2⟩ := h.pure_l
 exact ⟨N, h1, h2⟩
theorem bkM_shut {w0 w : World} {B : Nat} {N : List Nd} {W : List (List Nat)} {M : List Int} {F : SProp} (hT : Trie N W) (h : St w0 w (bookM B N M (W.map tx) * F)) : St w0 w (bkM B W M * F) :=
 St.mk_ex_l N ((St.mk_pure_l hT h).perm (star_assoc _ _ _).symm)
theorem bkM_new {w0 w : World} {F : SProp} {W : List (List Nat)} {M : List Int} {n : Nat} {vm vw : Value} (h : St w0 w (own 196 1 vm n (M.map iv) * (own 9 1 vw n (W.map txv) * F))) (hn : n = W.length) (hM : M.length = W.length)
  (hb : ∀ w ∈ W, Bit w) (pf : PF W) (hl : W.length ≤ 900) (h30 : ∀ w ∈ W, w.length ≤ 1000) :
  Calls Tryz.prog 140 #[vw, vm] w fun e w' => ∃ B, e = .returned (.tuple #[.pointer (some ⟨B, 0, none⟩), .int .i64 0]) ∧ St w0 w' (bkM B W M * F) := by
 subst hn
 obtain ⟨N, hN, hT⟩ := book_trie hb pf
 have e1 : W.map txv = (W.map tx).map svB := by rw [List.map_map]; rfl
 have hwl : (W.map tx).length = W.length := by simp
 rw [e1] at h
 have C := new_anyM (vw := vw) (vm := vm) h (W.map tx) M (by rw [hM, hwl]) (by rw [hwl]; exact hl) (fun i t ht => by
  rw [List.getElem?_map] at ht
  cases e : W[i]? with
  | none => rw [e] at ht; cases ht
  | some v =>
   rw [e] at ht
   cases ht
   rw [length_tx]; exact h30 v (List.mem_of_getElem? e)) (fun w h => by rw [hwl]; exact h.right.reads) (fun w h => by rw [hM]; exact h.reads) hN
 refine C.mono ?_
 rintro e w'' ⟨hok, _⟩
 obtain ⟨B, he, h5, _⟩ := hok rfl
 have h6 := ((h5.perm (star_left_comm _ _ _)).right.perm (star_left_comm _ _ _)).right
 exact ⟨B, he, bkM_shut hT h6⟩
theorem bkM_write {w0 w : World} {F : SProp} {B Wb : Nat} {W : List (List Nat)} {M : List Int} {l : List Nat} {low : Bool} (h : St w0 w (bkM B W M * (wrt Wb l low * F))) {j : Int} (i : Nat) (hj : j = i) {v : List Nat} (hi : W[i]? = some v) (hv : v ≠ []) (hb : Bit v) (h30 : v.length ≤ 1000) (hm : l.length ≤ 10000000000000) :
  Calls Tryz.prog 182 #[.pointer (some ⟨B, 0, none⟩), .pointer (some ⟨Wb, 0, none⟩), .int .i64 j] w fun e w' => e = .returned (.int .i64 0) ∧ St w0 w' (bkM B W M * (wrt Wb (l ++ v) low * F)) := by
 subst hj
 obtain ⟨N, hT, h⟩ := bkM_open h
 have hil : i < W.length := by obtain ⟨hx, _⟩ := List.getElem?_eq_some_iff.1 hi; exact hx
 have e : wAt (W.map tx) (i : Int) = tx v := by
  rw [wAt, if_pos (by rw [List.length_map]; omega), Int.toNat_natCast, List.getD_eq_getElem?_getD, List.getElem?_map, hi]; rfl
 have hne : tx v ≠ [] := fun h0 => hv (by simpa [tx] using h0)
 refine (hwrite_anyM h (i : Int) (by rw [e]; exact digB_of_tx hb) (by rw [e, length_tx]; omega) hm).mono ?_
 rintro e' w' ⟨rfl, h2⟩
 rw [e, if_neg hne, unTx_tx hb] at *
 exact ⟨rfl, bkM_shut hT h2⟩
end Go.Proofs.YtboflbdniogcdaaGreatDoor
