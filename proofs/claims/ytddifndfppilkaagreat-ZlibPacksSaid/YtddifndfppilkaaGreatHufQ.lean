/-
  Books of words without their places: the next word of bits (package huff, Book[int] whose means are places).
-/
import Derived.Test.YtddifndfppilkaaGreatTrie
import Derived.Test.YtddifndfppilkaaGreatHufKI
namespace Go.Proofs.YtddifndfppilkaaGreat
open Go.RowKit Go.Mz
set_option linter.unusedVariables false
set_option linter.unusedSimpArgs false
set_option maxRecDepth 100000

def upto (n : Nat) : List Int := (List.range n).map fun (i : Nat) => (i : Int)
theorem length_upto (n : Nat) : (upto n).length = n := by simp [upto]
theorem upto_succ (n : Nat) : upto (n + 1) = upto n ++ [(n : Int)] := by simp [upto, List.range_succ]
theorem upto_get {n i : Nat} (h : i < n) : (upto n).getD i 0 = (i : Int) := by
  rw [upto, List.getD_eq_getElem?_getD, List.getElem?_map, List.getElem?_range h]; rfl
/-- A book of the words, that mean their places. -/
def bkS (B : Nat) (W : List (List Nat)) : SProp := sEx fun N : List Nd => lift (Trie N W) * bookI B N (upto W.length) (W.map tx)
theorem bkS_open {w0 w : World} {B : Nat} {W : List (List Nat)} {F : SProp} (h : St w0 w (bkS B W * F)) : ∃ N, Trie N W ∧ St w0 w (bookI B N (upto W.length) (W.map tx) * F) := by
  obtain ⟨N, h⟩ := h.ex_l
  have h := h.perm (star_assoc _ _ _)
  obtain ⟨h1, h2⟩ := h.pure_l
  exact ⟨N, h1, h2⟩
/-- What Read returns, and the place behind it. -/
def RdR (r : Nat × (Nat ⊕ Nat)) (p : Nat) (z : Int) (x p' : Nat) : Prop :=
  p' = p + r.1 ∧ match r.2 with
  | .inl i => x = 0 ∧ z = i
  | .inr e => x = e
theorem bread_any {w0 w : World} {F : SProp} {B Rb : Nat} {W : List (List Nat)} {bs : List UInt8} {p : Nat} {low : Bool} (h : St w0 w (bkS B W * (rdr Rb bs p low * F))) (hp : p ≤ 8 * bs.length) :
    Calls Tryz.prog 53 #[.pointer (some ⟨B, 0, none⟩), .pointer (some ⟨Rb, 0, none⟩)] w fun e w' => ∃ (z : Int) (x p' : Nat),
      e = .returned (.tuple #[.int .i64 z, .int .i64 x]) ∧ RdR (rdW W [] ((bitsL low bs).drop p)) p z x p' ∧ St w0 w' (bkS B W * (rdr Rb bs p' low * F)) := by
  obtain ⟨N, hT, h⟩ := bkS_open h
  have hM : MOk N (upto W.length).length := by rw [length_upto]; exact hT.means
  refine (read_anyI h hT.1 hM hp (readN_trie hT bs low p hp)).mono ?_
  rintro e w' ⟨rfl, h2⟩
  have h3 : St w0 w' (bkS B W * (rdr Rb bs (p + (rdW W [] ((bitsL low bs).drop p)).1) low * F)) := St.mk_ex_l N ((St.mk_pure_l hT h2).perm (star_assoc _ _ _).symm)
  have hlen := rdW_len W ((bitsL low bs).drop p) []
  generalize rdW W [] ((bitsL low bs).drop p) = r at *
  obtain ⟨k, r⟩ := r
  cases r with
  | inl i =>
    have hi := (hlen.2.2.2.1 i rfl).2
    refine ⟨i, 0, p + k, ?_, ⟨rfl, rfl, rfl⟩, h3⟩
    rw [readResI, upto_get hi]; rfl
  | inr er => exact ⟨0, er, p + k, rfl, ⟨rfl, rfl⟩, h3⟩
theorem newW_any {w0 w : World} {F : SProp} {W : List (List Nat)} {n : Nat} {vm vw : Value} (h : St w0 w (own 3 1 vm n ((upto n).map iv) * (own 9 1 vw n (W.map txv) * F))) (hn : n = W.length)
    (hb : ∀ w ∈ W, Bit w) (pf : PF W) (hl : W.length ≤ 900) (h30 : ∀ w ∈ W, w.length ≤ 1000) :
    Calls Tryz.prog 78 #[vw, vm] w fun e w' => ∃ B, e = .returned (.tuple #[.pointer (some ⟨B, 0, none⟩), .int .i64 0]) ∧ St w0 w' (bkS B W * F) := by
  subst hn
  obtain ⟨N, hN, hT⟩ := book_trie hb pf
  have e1 : W.map txv = (W.map tx).map svB := by rw [List.map_map]; rfl
  have hwl : (W.map tx).length = W.length := by simp
  rw [e1] at h
  have C := new_anyI (vw := vw) (vm := vm) h (W.map tx) (upto W.length) (by rw [length_upto, hwl]) (by rw [hwl]; exact hl) (fun i t ht => by
    rw [List.getElem?_map] at ht
    cases e : W[i]? with
    | none => rw [e] at ht; cases ht
    | some v =>
      rw [e] at ht
      cases ht
      rw [length_tx]; exact h30 v (List.mem_of_getElem? e)) (fun w h => by rw [hwl]; exact h.right.reads) (fun w h => by rw [length_upto]; exact h.reads) hN
  refine C.mono ?_
  rintro e w'' ⟨hok, _⟩
  obtain ⟨B, he, h5, _⟩ := hok rfl
  have h6 := ((h5.perm (star_left_comm _ _ _)).right.perm (star_left_comm _ _ _)).right
  exact ⟨B, he, St.mk_ex_l N ((St.mk_pure_l hT h6).perm (star_assoc _ _ _).symm)⟩
end Go.Proofs.YtddifndfppilkaaGreat
