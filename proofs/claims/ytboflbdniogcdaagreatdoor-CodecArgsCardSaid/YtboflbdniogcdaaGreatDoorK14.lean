/-
  Parts of a proof.
-/
import Derived.BigRegion
import Derived.Deep.Cut
import Derived.Deep.LoopGhost
import Derived.Deep.RegionHeld
import Derived.Deep.RegionHeld3
import Derived.DeepKeys
import Derived.OrdersHeld
import Derived.RegionTactic
import Derived.Test.YtboflbdniogcdaaGreatDoorChecked
import Derived.WalkLawsBesides
import Derived.Test.YtboflbdniogcdaaGreatDoorK01
import Derived.Test.YtboflbdniogcdaaGreatDoorK13
import Derived.Test.YtboflbdniogcdaaGreatDoorK04
import Derived.Test.YtboflbdniogcdaaGreatDoorK02
import Derived.Test.YtboflbdniogcdaaGreatDoorK08
namespace Go.Mz
open Go.RowKit
set_option linter.unusedVariables false
set_option linter.unusedSimpArgs false
theorem flat_set {α : Type} (enc : α → List Value) (m : Nat) (hm : ∀ x, (enc x).length = m) (l : List α) (k : Nat) (x y : α) (h : l[k]? = some x) (j : Nat) (hj : j < m) (v : Value) (hv : (enc x).set j v = enc y) :
  (l.flatMap enc).set (k * m + j) v = (l.set k y).flatMap enc := by
 induction l generalizing k with
 | nil => simp at h
 | cons p l ih =>
  cases k with
  | zero =>
   simp only [List.getElem?_cons_zero, Option.some.injEq] at h
   subst h
   rw [List.flatMap_cons, Nat.zero_mul, Nat.zero_add, List.set_append_left _ _ (by rw [hm]; exact hj), hv, List.set_cons_zero, List.flatMap_cons]
  | succ k =>
   simp only [List.getElem?_cons_succ] at h
   rw [List.flatMap_cons, List.set_append_right _ _ (by rw [hm, Nat.succ_mul]; omega), List.set_cons_succ, List.flatMap_cons, ← ih k h, hm]
   congr 2; rw [Nat.succ_mul]; omega
theorem St.own_setS {w0 w : World} {e : TypeId} {g n cap size : Nat} {xs : List Value} {F : SProp} (h : St w0 w (own e size (.slice (some ⟨g, 0, none⟩) n cap) n xs * F)) (i : Nat) (u : Value) :
  St w0 (w.setCell ⟨g, i, none⟩ u) (own e size (.slice (some ⟨g, 0, none⟩) n cap) n (xs.set i u) * F) := by
 obtain ⟨hl, ⟨a1, _⟩ | ⟨g', cap', cur, a1, a2, a3, a4, a5, a6⟩⟩ := h.own_split
 ·cases a1
 ·cases a1
  refine St.own_blk (a6.set i u) a2 a3 (by simpa using a4) ?_
  rw [← a5, Array.toList_setIfInBounds, List.take_set]
theorem St.own_cellS {w0 w : World} {e : TypeId} {g n cap size : Nat} {xs : List Value} {F : SProp} (h : St w0 w (own e size (.slice (some ⟨g, 0, none⟩) n cap) n xs * F)) {i : Nat} {u : Value} (hu : xs[i]? = some u) : w.cell? ⟨g, i, none⟩ = some u := by
 obtain ⟨hl, ⟨a1, _⟩ | ⟨x, c, a1, a2, a3, a4⟩⟩ := h.reads
 ·cases a1
 ·cases a1
  have := a4 i u hu
  rw [Addr.add_lit, Nat.zero_add] at this
  exact this
structure Nd where
 n0 : Nat
 n1 : Nat
 mean : Int
def Nd.nx (d : Nd) (c : Nat) : Nat := if c = 0 then d.n0 else d.n1
def Nd.put (d : Nd) (c x : Nat) : Nd := if c = 0 then { d with n0 := x } else { d with n1 := x }
def nd0 : Nd := ⟨0, 0, -1⟩
def ndV (d : Nd) : List Value := [.int .i64 (d.n0 : Int), .int .i64 (d.n1 : Int), .int .i64 d.mean]
theorem length_ndV (d : Nd) : (ndV d).length = 3 := rfl
def flatN (N : List Nd) : List Value := N.flatMap ndV
theorem flatN_snoc (N : List Nd) (d : Nd) : flatN (N ++ [d]) = flatN N ++ ndV d := by simp [flatN]
theorem flatN_mean {N : List Nd} {k : Nat} {d : Nd} (h : N[k]? = some d) : (flatN N)[k * 3 + 2]? = some (.int .i64 d.mean) := by
 rw [flatN, flat_get ndV 3 length_ndV N k d h 2 (by omega)]; rfl
theorem flatN_next {N : List Nd} {k : Nat} {d : Nd} (h : N[k]? = some d) {c : Nat} (hc : c ≤ 1) : (flatN N)[k * 3 + c]? = some (.int .i64 (d.nx c : Int)) := by
 rw [flatN, flat_get ndV 3 length_ndV N k d h c (by omega)]
 have : c = 0 ∨ c = 1 := by omega
 rcases this with rfl | rfl <;> rfl
theorem flatN_setMean {N : List Nd} {k : Nat} {d : Nd} (h : N[k]? = some d) (m : Int) : (flatN N).set (k * 3 + 2) (.int .i64 m) = flatN (N.set k { d with mean := m }) :=
 flat_set ndV 3 length_ndV N k d _ h 2 (by omega) _ rfl
theorem flatN_setNext {N : List Nd} {k : Nat} {d : Nd} (h : N[k]? = some d) {c : Nat} (hc : c ≤ 1) (x : Nat) : (flatN N).set (k * 3 + c) (.int .i64 (x : Int)) = flatN (N.set k (d.put c x)) := by
 have : c = 0 ∨ c = 1 := by omega
 rcases this with rfl | rfl
 ·exact flat_set ndV 3 length_ndV N k d _ h 0 (by omega) _ rfl
 ·exact flat_set ndV 3 length_ndV N k d _ h 1 (by omega) _ rfl
def layS (mean : Nat) : List Nd → Nat → List UInt8 → List Nd × Nat
 | N, at_, [] =>
  let d := N.getD at_ nd0
  if 0 ≤ d.mean ∨ d.n0 ≠ 0 ∨ d.n1 ≠ 0 then (N, 14) else (N.set at_ { d with mean := mean }, 0)
 | N, at_, ch :: s =>
  let d := N.getD at_ nd0
  let c := if ch = 48 then 0 else 1
  if ch ≠ 48 ∧ ch ≠ 49 then (N, 3)
  else if 0 ≤ d.mean then (N, 14)
  else if d.nx c = 0 then layS mean ((N ++ [nd0]).set at_ (d.put c N.length)) N.length s
  else layS mean N (d.nx c) s
def lay (N : List Nd) (s : List UInt8) (mean : Nat) : List Nd × Nat := if s = [] then (N, 0) else layS mean N 0 s
def NOk (N : List Nd) : Prop := 0 < N.length ∧ ∀ d ∈ N, d.n0 < N.length ∧ d.n1 < N.length
theorem NOk.one : NOk [nd0] := ⟨by simp, fun d hd => by simp at hd; subst hd; simp [nd0]⟩
theorem NOk.nx {N : List Nd} (h : NOk N) {k : Nat} {d : Nd} (hd : N[k]? = some d) (c : Nat) : d.nx c < N.length := by
 have := h.2 d (List.mem_of_getElem? hd)
 unfold Nd.nx; split
 ·exact this.1
 ·exact this.2
theorem NOk.more {N : List Nd} (h : NOk N) {k : Nat} {d : Nd} (hd : N[k]? = some d) (c : Nat) : NOk ((N ++ [nd0]).set k (d.put c N.length)) := by
 refine ⟨by simp, fun x hx => ?_⟩
 rw [List.length_set, List.length_append, List.length_singleton]
 have hN := h.1
 rcases List.mem_or_eq_of_mem_set hx with hx | rfl
 ·rw [List.mem_append, List.mem_singleton] at hx
  rcases hx with hx | rfl
  ·have := h.2 x hx; omega
  ·simp [nd0]
 ·have := h.2 d (List.mem_of_getElem? hd)
  unfold Nd.put; split
  ·exact ⟨by simp, by simp only; omega⟩
  ·exact ⟨by simp only; omega, by simp⟩
theorem NOk.mean {N : List Nd} (h : NOk N) {k : Nat} {d : Nd} (hd : N[k]? = some d) (m : Int) : NOk (N.set k { d with mean := m }) := by
 refine ⟨by rw [List.length_set]; exact h.1, fun x hx => ?_⟩
 rw [List.length_set]
 rcases List.mem_or_eq_of_mem_set hx with hx | rfl
 ·exact h.2 x hx
 ·exact h.2 d (List.mem_of_getElem? hd)
end Go.Mz
namespace Go.Proofs.YtboflbdniogcdaaGreatDoor
open Go.RowKit Go.Mz
set_option linter.unusedVariables false
set_option linter.unusedSimpArgs false
set_option maxRecDepth 100000
def iv (n : Int) : Value := .int .i64 n
def nv (n : Nat) : Value := .int .i64 (n : Int)
def txv (w : List Nat) : Value := .string ⟨(tx w).toArray⟩
def svB (t : List UInt8) : Value := .string ⟨t.toArray⟩
theorem elemStrs : ElemT Tryz.prog 38 9 1 16 (.string ⟨#[]⟩) :=
 ⟨Tryz.underlying38, info_parts (by kernel_rfl), rfl, by decide⟩
theorem elemNodes : ElemT Tryz.prog 246 245 3 24 (.agg #[.int .i64 0, .int .i64 0, .int .i64 0]) :=
 ⟨Tryz.underlying246, info_parts (by kernel_rfl), rfl, by decide⟩
theorem layS_cons_bad {mean : Nat} {N : List Nd} {a : Nat} {ch : UInt8} {s : List UInt8} (h : ch ≠ 48 ∧ ch ≠ 49) : layS mean N a (ch :: s) = (N, 3) := by rw [layS]; simp [h]
theorem layS_cons_twice {mean : Nat} {N : List Nd} {a : Nat} {d : Nd} {ch : UInt8} {s : List UInt8} (hd : N[a]? = some d) (h : ch = 48 ∨ ch = 49) (hm : 0 ≤ d.mean) : layS mean N a (ch :: s) = (N, 14) := by
 have e : N.getD a nd0 = d := by rw [List.getD_eq_getElem?_getD, hd]; rfl
 have h' : ¬ (ch ≠ 48 ∧ ch ≠ 49) := by rintro ⟨h1, h2⟩; rcases h with h | h; exact h1 h; exact h2 h
 rw [layS]
 simp only [e, if_neg h', if_pos hm]
theorem layS_cons_new {mean : Nat} {N : List Nd} {a c : Nat} {d : Nd} {ch : UInt8} {s : List UInt8} (hd : N[a]? = some d) (h : ch = 48 ∧ c = 0 ∨ ch = 49 ∧ c = 1) (hm : ¬ 0 ≤ d.mean) (hx : d.nx c = 0) :
  layS mean N a (ch :: s) = layS mean ((N ++ [nd0]).set a (d.put c N.length)) N.length s := by
 have e : N.getD a nd0 = d := by rw [List.getD_eq_getElem?_getD, hd]; rfl
 have h' : ¬ (ch ≠ 48 ∧ ch ≠ 49) := by rintro ⟨h1, h2⟩; rcases h with h | h; exact h1 h.1; exact h2 h.1
 have hc : (if ch = 48 then 0 else 1) = c := by rcases h with ⟨rfl, rfl⟩ | ⟨rfl, rfl⟩ <;> rfl
 rw [layS]
 simp only [e, if_neg h', if_neg hm, hc, if_pos hx]
theorem layS_cons_old {mean : Nat} {N : List Nd} {a c : Nat} {d : Nd} {ch : UInt8} {s : List UInt8} (hd : N[a]? = some d) (h : ch = 48 ∧ c = 0 ∨ ch = 49 ∧ c = 1) (hm : ¬ 0 ≤ d.mean) (hx : ¬ d.nx c = 0) :
  layS mean N a (ch :: s) = layS mean N (d.nx c) s := by
 have e : N.getD a nd0 = d := by rw [List.getD_eq_getElem?_getD, hd]; rfl
 have h' : ¬ (ch ≠ 48 ∧ ch ≠ 49) := by rintro ⟨h1, h2⟩; rcases h with h | h; exact h1 h.1; exact h2 h.1
 have hc : (if ch = 48 then 0 else 1) = c := by rcases h with ⟨rfl, rfl⟩ | ⟨rfl, rfl⟩ <;> rfl
 rw [layS]
 simp only [e, if_neg h', if_neg hm, hc, if_neg hx]
theorem two_lits {p q : Nat} (hp : p < 100000000) (hq : q < 100000000) : Tryz.prog.keyLits 2 131 [.int .i64 p, .int .i64 q] = some [.int .i64 p, .int .i64 q] := by
 have h1 : (Lit.int .i64 (p : Int)).wf = true := by simp [Lit.wf, IntKind.min, IntKind.max, IntKind.bits, IntKind.signed]; omega
 have h2 : (Lit.int .i64 (q : Int)).wf = true := by simp [Lit.wf, IntKind.min, IntKind.max, IntKind.bits, IntKind.signed]; omega
 have c2 : Tryz.prog.cellsOf 131 = 2 := by kernel_rfl
 have c1 : Tryz.prog.cellsOf 3 = 1 := by kernel_rfl
 simp [Program.keyLits, c2, c1, Tryz.underlying131, Tryz.underlying3, h1, h2, List.range_succ]
theorem eq_two {p q : Nat} (hp : p < 100000000) (hq : q < 100000000) (w : World) : (Op.equalIn 10000 131 (.agg #[.int .i64 p, .int .i64 q]) (.agg #[.int .i64 0, .int .i64 0])).run Tryz.prog w = .ok (decide (p = 0 ∧ q = 0)) w := by
 have c2 : Tryz.prog.cellsOf 131 = 2 := by kernel_rfl
 have hf : ∀ a b : Value, (Value.agg #[a, b]).formed Tryz.prog 131 = true := fun a b => by simp [Value.formed, Tryz.underlying131, c2]
 obtain ⟨r, h1, h2⟩ := run_equalIn_deep (P := Tryz.prog) 9998 2 131 (by kernel_rfl) w 2 2 _ _ _ _ (hf (.int .i64 p) (.int .i64 q)) (hf (.int .i64 0) (.int .i64 0)) (two_lits hp hq) (two_lits (p := 0) (q := 0) (by omega) (by omega))
 rw [h1]
 congr 1
 rw [Bool.eq_iff_iff, h2]
 simp
theorem layS_nil_bad {mean : Nat} {N : List Nd} {a : Nat} {d : Nd} (hd : N[a]? = some d) (h : 0 ≤ d.mean ∨ d.n0 ≠ 0 ∨ d.n1 ≠ 0) : layS mean N a [] = (N, 14) := by
 have e : N.getD a nd0 = d := by rw [List.getD_eq_getElem?_getD, hd]; rfl
 rw [layS]
 simp only [e, if_pos h]
theorem layS_nil_ok {mean : Nat} {N : List Nd} {a : Nat} {d : Nd} (hd : N[a]? = some d) (h1 : ¬ 0 ≤ d.mean) (h2 : d.n0 = 0) (h3 : d.n1 = 0) : layS mean N a [] = (N.set a { d with mean := mean }, 0) := by
 have e : N.getD a nd0 = d := by rw [List.getD_eq_getElem?_getD, hd]; rfl
 rw [layS]
 simp only [e]
 rw [if_neg (by omega)]
def layAll : List Nd → Nat → List (List UInt8) → List Nd × Nat
 | N, _, [] => (N, 0)
 | N, i, w :: ws => if (lay N w i).2 = 0 then layAll (lay N w i).1 (i + 1) ws else ((lay N w i).1, (lay N w i).2)
end Go.Proofs.YtboflbdniogcdaaGreatDoor
namespace Go.Proofs.YtboflbdniogcdaaGreatDoor
open Go.RowKit Go.Mz
set_option linter.unusedVariables false
set_option linter.unusedSimpArgs false
theorem Nd.put_nx (d : Nd) (c c' x : Nat) (h : c ≤ 1) (h' : c' ≤ 1) : (d.put c x).nx c' = if c = c' then x else d.nx c' := by
 unfold Nd.put Nd.nx
 rcases (show c = 0 ∨ c = 1 by omega) with rfl | rfl <;> rcases (show c' = 0 ∨ c' = 1 by omega) with rfl | rfl <;> simp
theorem Nd.put_mean (d : Nd) (c x : Nat) : (d.put c x).mean = d.mean := by unfold Nd.put; split <;> rfl
theorem nd0_nx (c : Nat) : nd0.nx c = 0 := by unfold Nd.nx nd0; split <;> rfl
structure TrieP (N : List Nd) (W V : List (List Nat)) (P : Nat → List Nat) : Prop where
 root : P 0 = []
 step : ∀ (a : Nat) (d : Nd) (c : Nat), N[a]? = some d → c ≤ 1 → d.nx c ≠ 0 → P (d.nx c) = P a ++ [c]
 word : ∀ (a : Nat) (d : Nd), N[a]? = some d → 0 ≤ d.mean → ∃ i : Nat, d.mean = i ∧ W[i]? = some (P a) ∧ P a ≠ []
 pre : ∀ a : Nat, a < N.length → a ≠ 0 → ∃ w ∈ V, P a <+: w
 has : ∀ (i : Nat) (w : List Nat), W[i]? = some w → w ≠ [] → ∃ (a : Nat) (d : Nd), N[a]? = some d ∧ P a = w ∧ d.mean = i
 conn : ∀ a : Nat, a < N.length → a ≠ 0 → ∃ (b : Nat) (d : Nd) (c : Nat), N[b]? = some d ∧ c ≤ 1 ∧ d.nx c = a
def Trie (N : List Nd) (W : List (List Nat)) : Prop := NOk N ∧ ∃ P, TrieP N W W P
theorem TrieP.up {N : List Nd} {W V : List (List Nat)} {P : Nat → List Nat} (h : TrieP N W V P) {a : Nat} (ha : a < N.length) (h0 : a ≠ 0) : ∃ (b : Nat) (d : Nd) (c : Nat), N[b]? = some d ∧ c ≤ 1 ∧ d.nx c = a ∧ P a = P b ++ [c] := by
 obtain ⟨b, d, c, h1, h2, h3⟩ := h.conn a ha h0
 exact ⟨b, d, c, h1, h2, h3, by have := h.step b d c h1 h2 (by omega); rw [h3] at this; exact this⟩
theorem snoc_ne {a : List Nat} {c : Nat} : a ++ [c] ≠ [] := by simp
theorem TrieP.inj {N : List Nd} {W V : List (List Nat)} {P : Nat → List Nat} (h : TrieP N W V P) : ∀ (n a a' : Nat), (P a).length = n → a < N.length → a' < N.length → P a = P a' → a = a' := by
 intro n
 induction n with
 | zero =>
  intro a a' hn ha ha' he
  have z : ∀ x, x < N.length → (P x).length = 0 → x = 0 := fun x hx hl => by
   apply Classical.byContradiction
   intro h0
   obtain ⟨b, d, c, _, _, _, e⟩ := h.up hx h0
   rw [e] at hl; simp at hl
  rw [z a ha hn, z a' ha' (by rw [← he]; exact hn)]
 | succ n ih =>
  intro a a' hn ha ha' he
  have nz : ∀ x, (P x).length = n + 1 → x ≠ 0 := fun x hl h0 => by
   rw [h0, h.root] at hl; simp at hl
  obtain ⟨b, d, c, h1, h2, h3, e⟩ := h.up ha (nz a hn)
  obtain ⟨b', d', c', h1', h2', h3', e'⟩ := h.up ha' (nz a' (by rw [← he]; exact hn))
  rw [e, e'] at he
  have e1 := List.append_inj' he rfl
  have hc : c = c' := by simpa using e1.2
  have hb : b = b' := ih b b' (by rw [e] at hn; simpa using hn) (by obtain ⟨hx, _⟩ := List.getElem?_eq_some_iff.1 h1; exact hx) (by obtain ⟨hx, _⟩ := List.getElem?_eq_some_iff.1 h1'; exact hx) e1.1
  subst hb hc
  rw [h1] at h1'
  cases h1'
  rw [← h3, ← h3']
theorem TrieP.lt {N : List Nd} {a : Nat} {d : Nd} (h : N[a]? = some d) : a < N.length := by
 obtain ⟨hx, _⟩ := List.getElem?_eq_some_iff.1 h; exact hx
theorem Trie.one : Trie [nd0] [] := by
 refine ⟨NOk.one, fun _ => [], rfl, ?_, ?_, ?_, ?_, ?_⟩
 ·intro a d c hd hc hx
  have : d = nd0 := by
   have := List.mem_of_getElem? hd
   simpa using this
  subst this
  exact absurd (nd0_nx c) hx
 ·intro a d hd hm
  have : d = nd0 := by
   have := List.mem_of_getElem? hd
   simpa using this
  subst this
  simp [nd0] at hm
 ·intro a ha h0; simp at ha; omega
 ·intro i w hw; simp at hw
 ·intro a ha h0; simp at ha; omega
theorem layS_trie {W : List (List Nat)} {w : List Nat} (hw : Bit w) (hne : w ≠ []) (pf : ∀ v ∈ W, v ≠ [] → ¬ v <+: w ∧ ¬ w <+: v) :
  ∀ (r : List Nat) (N : List Nd) (P : Nat → List Nat) (a : Nat) (s : List Nat), TrieP N W (W ++ [w]) P → NOk N → a < N.length → P a = s → s ++ r = w →
  ∃ N' P', layS W.length N a (tx r) = (N', 0) ∧ NOk N' ∧ TrieP N' (W ++ [w]) (W ++ [w]) P' := by
 intro r
 induction r with
 | nil =>
  intro N P a s h hN ha hs hr
  obtain ⟨d, hd⟩ : ∃ d, N[a]? = some d := ⟨N[a], List.getElem?_eq_getElem ha⟩
  rw [List.append_nil] at hr
  subst hr
  have hm : ¬ 0 ≤ d.mean := fun hm => by
   obtain ⟨i, _, hi, hi2⟩ := h.word a d hd hm
   rw [hs] at hi
   exact (pf s (List.mem_of_getElem? hi) hne).1 (List.prefix_refl _)
  have hx : ∀ c, c ≤ 1 → d.nx c = 0 := fun c hc => by
   apply Classical.byContradiction
   intro h0
   have e := h.step a d c hd hc h0
   obtain ⟨v, hv, hp⟩ := h.pre _ (hN.nx hd c) h0
   rw [e, hs] at hp
   rcases List.mem_append.1 hv with hv | hv
   ·have : s <+: v := (List.prefix_append _ _).trans hp
    exact (pf v hv (fun h0 => by rw [h0] at hp; exact snoc_ne (List.prefix_nil.1 hp))).2 this
   ·rw [List.mem_singleton] at hv
    subst hv
    have := hp.length_le
    simp at this; omega
  refine ⟨_, P, layS_nil_ok hd hm (hx 0 (by omega)) (hx 1 (by omega)), hN.mean hd _, ?_⟩
  have key : ∀ (x : Nat) (d' : Nd), (N.set a { d with mean := (W.length : Int) })[x]? = some d' → ∃ d0, N[x]? = some d0 ∧ (∀ c, d'.nx c = d0.nx c) ∧ (x ≠ a → d' = d0) ∧ (x = a → d'.mean = W.length) := by
   intro x d' hd'
   by_cases hxa : x = a
   ·subst hxa
    rw [List.getElem?_set_self ha] at hd'
    cases hd'
    exact ⟨d, hd, fun c => rfl, fun h => absurd rfl h, fun _ => rfl⟩
   ·rw [List.getElem?_set_ne (fun e => hxa e.symm)] at hd'
    exact ⟨d', hd', fun c => rfl, fun _ => rfl, fun e => absurd e hxa⟩
  refine ⟨h.root, ?_, ?_, ?_, ?_, ?_⟩
  ·intro x d' c hd' hc hne'
   obtain ⟨d0, h0, hnx, _⟩ := key x d' hd'
   rw [hnx c] at hne' ⊢
   exact h.step x d0 c h0 hc hne'
  ·intro x d' hd' hm'
   obtain ⟨d0, h0, hnx, h1, h2⟩ := key x d' hd'
   by_cases hxa : x = a
   ·refine ⟨W.length, h2 hxa, ?_, ?_⟩
    ·rw [hxa, hs, List.getElem?_append_right (Nat.le_refl _), Nat.sub_self]; rfl
    ·rw [hxa, hs]; exact hne
   ·rw [h1 hxa] at hm' ⊢
    obtain ⟨i, e1, e2, e3⟩ := h.word x d0 h0 hm'
    exact ⟨i, e1, by rw [List.getElem?_append_left (by obtain ⟨hx, _⟩ := List.getElem?_eq_some_iff.1 e2; exact hx)]; exact e2, e3⟩
  ·intro x hx h0
   rw [List.length_set] at hx
   exact h.pre x hx h0
  ·intro i v hv hvn
   by_cases hi : i < W.length
   ·rw [List.getElem?_append_left hi] at hv
    obtain ⟨x, d0, h1, h2, h3⟩ := h.has i v hv hvn
    have hxa : x ≠ a := fun e => by
     subst e
     rw [h1] at hd; cases hd
     exact hm (by omega)
    exact ⟨x, d0, by rw [List.getElem?_set_ne (fun e => hxa e.symm)]; exact h1, h2, h3⟩
   ·have hlt : i < (W ++ [s]).length := by obtain ⟨hx, _⟩ := List.getElem?_eq_some_iff.1 hv; exact hx
    have hi2 : i = W.length := by simp at hlt; omega
    subst hi2
    rw [List.getElem?_append_right (Nat.le_refl _), Nat.sub_self] at hv
    simp at hv
    subst hv
    exact ⟨a, _, List.getElem?_set_self ha, hs, rfl⟩
  ·intro x hx h0
   rw [List.length_set] at hx
   obtain ⟨b, d0, c, h1, h2, h3⟩ := h.conn x hx h0
   by_cases hba : b = a
   ·subst hba
    rw [h1] at hd; cases hd
    exact ⟨b, _, c, List.getElem?_set_self ha, h2, h3⟩
   ·exact ⟨b, d0, c, by rw [List.getElem?_set_ne (fun e => hba e.symm)]; exact h1, h2, h3⟩
 | cons c r ih =>
  intro N P a s h hN ha hs hr
  obtain ⟨d, hd⟩ : ∃ d, N[a]? = some d := ⟨N[a], List.getElem?_eq_getElem ha⟩
  have hc : c ≤ 1 := hw c (by rw [← hr]; simp)
  have hch : dg c = 48 ∧ c = 0 ∨ dg c = 49 ∧ c = 1 := by
   rcases (show c = 0 ∨ c = 1 by omega) with rfl | rfl
   ·exact .inl ⟨rfl, rfl⟩
   ·exact .inr ⟨rfl, rfl⟩
  have hr' : (s ++ [c]) ++ r = w := by rw [← hr]; simp
  have hm : ¬ 0 ≤ d.mean := fun hm => by
   obtain ⟨i, _, hi, hi2⟩ := h.word a d hd hm
   rw [hs] at hi hi2
   exact (pf s (List.mem_of_getElem? hi) hi2).1 ⟨c :: r, hr⟩
  rw [tx_cons]
  by_cases hx : d.nx c = 0
  ·rw [layS_cons_new hd hch hm hx]
   have hN1 := hN.more hd c
   have hlen : ((N ++ [nd0]).set a (d.put c N.length)).length = N.length + 1 := by simp
   have key : ∀ (x : Nat) (d' : Nd), ((N ++ [nd0]).set a (d.put c N.length))[x]? = some d' → (x = a ∧ d' = d.put c N.length) ∨ (x ≠ a ∧ x < N.length ∧ N[x]? = some d') ∨ (x = N.length ∧ d' = nd0) := by
    intro x d' hd'
    by_cases hxa : x = a
    ·subst hxa
     rw [List.getElem?_set_self (by simp; omega)] at hd'
     cases hd'
     exact .inl ⟨rfl, rfl⟩
    ·rw [List.getElem?_set_ne (fun e => hxa e.symm)] at hd'
     by_cases hxl : x < N.length
     ·rw [List.getElem?_append_left hxl] at hd'
      exact .inr (.inl ⟨hxa, hxl, hd'⟩)
     ·have hlt : x < (N ++ [nd0]).length := TrieP.lt hd'
      have hx2 : x = N.length := by simp at hlt; omega
      subst hx2
      rw [List.getElem?_append_right (Nat.le_refl _), Nat.sub_self] at hd'
      simp at hd'
      exact .inr (.inr ⟨rfl, hd'.symm⟩)
   refine ih _ (fun x => if x = N.length then s ++ [c] else P x) N.length (s ++ [c]) ⟨?_, ?_, ?_, ?_, ?_, ?_⟩ hN1 (by rw [hlen]; omega) (by simp) hr'
   ·have : ¬ 0 = N.length := by have := hN.1; omega
    simp only [if_neg this]; exact h.root
   ·intro x d' c' hd' hc' hne'
    rcases key x d' hd' with ⟨rfl, rfl⟩ | ⟨hxa, hxl, h0⟩ | ⟨rfl, rfl⟩
    ·rw [Nd.put_nx d c c' _ hc hc'] at hne' ⊢
     by_cases hcc : c = c'
     ·subst hcc
      simp only [if_true]
      rw [if_neg (by omega), hs]
     ·rw [if_neg hcc] at hne' ⊢
      have := hN.nx hd c'
      simp only [if_neg (show ¬ d.nx c' = N.length by omega), if_neg (show ¬ x = N.length by omega)]
      exact h.step x d c' hd hc' hne'
    ·have := hN.nx h0 c'
     simp only [if_neg (show ¬ d'.nx c' = N.length by omega), if_neg (show ¬ x = N.length by omega)]
     exact h.step x d' c' h0 hc' hne'
    ·exact absurd (nd0_nx c') hne'
   ·intro x d' hd' hm'
    rcases key x d' hd' with ⟨rfl, rfl⟩ | ⟨hxa, hxl, h0⟩ | ⟨rfl, rfl⟩
    ·rw [Nd.put_mean] at hm'; exact absurd hm' hm
    ·simp only [if_neg (show ¬ x = N.length by omega)]
     exact h.word x d' h0 hm'
    ·simp [nd0] at hm'
   ·intro x hx' h0
    rw [hlen] at hx'
    by_cases hxl : x = N.length
    ·refine ⟨w, by simp, ?_⟩
     simp only [if_pos hxl]
     exact ⟨r, hr'⟩
    ·simp only [if_neg hxl]
     exact h.pre x (by omega) h0
   ·intro i v hv hvn
    obtain ⟨x, d0, h1, h2, h3⟩ := h.has i v hv hvn
    have hxa : x ≠ a := fun e => by
     subst e
     rw [h1] at hd; cases hd
     exact hm (by omega)
    have hxl := TrieP.lt h1
    refine ⟨x, d0, ?_, ?_, h3⟩
    ·rw [List.getElem?_set_ne (fun e => hxa e.symm), List.getElem?_append_left hxl]; exact h1
    ·simp only [if_neg (show ¬ x = N.length by omega)]; exact h2
   ·intro x hx' h0
    rw [hlen] at hx'
    by_cases hxl : x = N.length
    ·refine ⟨a, d.put c N.length, c, List.getElem?_set_self (by simp; omega), hc, ?_⟩
     rw [Nd.put_nx d c c _ hc hc, if_pos rfl, hxl]
    ·obtain ⟨b, d0, c0, h1, h2, h3⟩ := h.conn x (by omega) h0
     by_cases hba : b = a
     ·subst hba
      have e : d0 = d := by rw [h1] at hd; exact Option.some.inj hd
      subst e
      refine ⟨b, d0.put c N.length, c0, List.getElem?_set_self (by simp; omega), h2, ?_⟩
      rw [Nd.put_nx d0 c c0 _ hc h2, if_neg (fun e => h0 (by rw [← h3, ← e]; exact hx))]
      exact h3
     ·exact ⟨b, d0, c0, by rw [List.getElem?_set_ne (fun e => hba e.symm), List.getElem?_append_left (TrieP.lt h1)]; exact h1, h2, h3⟩
  ·rw [layS_cons_old hd hch hm hx]
   exact ih N P (d.nx c) (s ++ [c]) h hN (hN.nx hd c) (by rw [h.step a d c hd hc hx, hs]) hr'
theorem TrieP.wide {N : List Nd} {W V V' : List (List Nat)} {P : Nat → List Nat} (h : TrieP N W V P) (hv : ∀ v ∈ V, v ∈ V') : TrieP N W V' P :=
 ⟨h.root, h.step, h.word, fun a ha h0 => by obtain ⟨w, hw, hp⟩ := h.pre a ha h0; exact ⟨w, hv w hw, hp⟩, h.has, h.conn⟩
theorem lay_trie {N : List Nd} {W : List (List Nat)} {w : List Nat} (h : Trie N W) (hw : Bit w) (pf : ∀ v ∈ W, v ≠ [] → w ≠ [] → ¬ v <+: w ∧ ¬ w <+: v) :
  ∃ N', lay N (tx w) W.length = (N', 0) ∧ Trie N' (W ++ [w]) := by
 obtain ⟨hN, P, hP⟩ := h
 by_cases hne : w = []
 ·subst hne
  refine ⟨N, by rw [lay, if_pos tx_nil], hN, P, hP.root, hP.step, ?_, ?_, ?_, hP.conn⟩
  ·intro a d hd hm
   obtain ⟨i, e1, e2, e3⟩ := hP.word a d hd hm
   exact ⟨i, e1, by rw [List.getElem?_append_left (by obtain ⟨hx, _⟩ := List.getElem?_eq_some_iff.1 e2; exact hx)]; exact e2, e3⟩
  ·intro a ha h0
   obtain ⟨v, hv, hp⟩ := hP.pre a ha h0
   exact ⟨v, List.mem_append_left _ hv, hp⟩
  ·intro i v hv hvn
   by_cases hi : i < W.length
   ·rw [List.getElem?_append_left hi] at hv
    exact hP.has i v hv hvn
   ·rw [List.getElem?_append_right (by omega)] at hv
    have := List.mem_of_getElem? hv
    simp at this
    exact absurd this hvn
 ·obtain ⟨N', P', h1, h2, h3⟩ := layS_trie hw hne (fun v hv hvn => pf v hv hvn hne) w N P 0 [] (hP.wide fun v hv => List.mem_append_left _ hv) hN hN.1 hP.root rfl
  refine ⟨N', ?_, h2, P', h3⟩
  rw [lay, if_neg (by intro e; exact hne (by simpa [tx] using e))]
  exact h1
def PF (W : List (List Nat)) : Prop := ∀ (i k : Nat) (v w : List Nat), i ≠ k → W[i]? = some v → W[k]? = some w → v ≠ [] → ¬ v <+: w
theorem layAll_trie : ∀ (V W : List (List Nat)) (N : List Nd), Trie N W → (∀ w ∈ V, Bit w) → PF (W ++ V) → ∃ N', layAll N W.length (V.map tx) = (N', 0) ∧ Trie N' (W ++ V) := by
 intro V
 induction V with
 | nil => intro W N h hb pf; exact ⟨N, rfl, by rw [List.append_nil]; exact h⟩
 | cons w V ih =>
  intro W N h hb pf
  have hw : (W ++ w :: V)[W.length]? = some w := by rw [List.getElem?_append_right (Nat.le_refl _), Nat.sub_self]; rfl
  obtain ⟨N1, h1, h2⟩ := lay_trie h (hb w (by simp)) (fun v hv hvn hwn => by
   obtain ⟨i, hi, rfl⟩ := List.mem_iff_getElem.1 hv
   have hv' : (W ++ w :: V)[i]? = some W[i] := by rw [List.getElem?_append_left hi, List.getElem?_eq_getElem hi]
   exact ⟨pf i W.length _ _ (by omega) hv' hw hvn, pf W.length i _ _ (by omega) hw hv' hwn⟩)
  obtain ⟨N', h3, h4⟩ := ih (W ++ [w]) N1 h2 (fun x hx => hb x (by simp [hx])) (by rw [List.append_assoc]; exact pf)
  refine ⟨N', ?_, by rw [List.append_assoc] at h4; exact h4⟩
  rw [List.map_cons, layAll, h1, if_pos rfl]
  simp only
  rw [List.length_append, List.length_singleton] at h3
  exact h3
theorem book_trie {W : List (List Nat)} (hb : ∀ w ∈ W, Bit w) (pf : PF W) : ∃ N, layAll [nd0] 0 (W.map tx) = (N, 0) ∧ Trie N W := by
 have := layAll_trie W [] [nd0] Trie.one hb pf
 simpa using this
def rdW (W : List (List Nat)) : List Nat → List Nat → Nat × (Nat ⊕ Nat)
 | s, [] => (s.length, .inr 2)
 | s, c :: r =>
  match W.findIdx? (fun w => w == s ++ [c]) with
  | some i => (s.length + 1, .inl i)
  | none => if W.any (fun w => (s ++ [c]).isPrefixOf w) then rdW W (s ++ [c]) r else (s.length + 1, .inr 6)
theorem find_some {W : List (List Nat)} {v : List Nat} {i : Nat} (h : W[i]? = some v) (hu : ∀ j : Nat, W[j]? = some v → j = i) : W.findIdx? (fun w => w == v) = some i := by
 rw [List.findIdx?_eq_some_iff_getElem]
 obtain ⟨hi, e⟩ := List.getElem?_eq_some_iff.1 h
 refine ⟨hi, by rw [e]; simp, fun j hj => ?_⟩
 intro hc
 have : W[j] = v := by simpa using hc
 have := hu j (by rw [List.getElem?_eq_getElem (by omega), this])
 omega
theorem find_none {W : List (List Nat)} {v : List Nat} (h : ∀ j : Nat, W[j]? ≠ some v) : W.findIdx? (fun w => w == v) = none := by
 rw [List.findIdx?_eq_none_iff]
 intro x hx
 obtain ⟨j, hj, rfl⟩ := List.mem_iff_getElem.1 hx
 have := h j
 rw [List.getElem?_eq_getElem hj] at this
 simpa using this
theorem rdW_hit {W : List (List Nat)} (pf : PF W) {i : Nat} {w : List Nat} (hi : W[i]? = some w) :
  ∀ (r s t : List Nat), s ++ r = w → r ≠ [] → rdW W s (r ++ t) = (w.length, .inl i) := by
 intro r
 induction r with
 | nil => intro s t _ h; exact absurd rfl h
 | cons c r ih =>
  intro s t hs _
  have hs' : (s ++ [c]) ++ r = w := by rw [← hs]; simp
  rw [List.cons_append, rdW]
  by_cases hr : r = []
  ·subst hr
   rw [List.append_nil] at hs'
   rw [hs', find_some hi (fun j hj => by
    apply Classical.byContradiction
    intro hji
    exact pf j i w w hji hj hi (by rw [← hs']; exact snoc_ne) (List.prefix_refl _))]
   simp only
   rw [← hs']; simp
  ·have hno : ∀ j : Nat, W[j]? ≠ some (s ++ [c]) := fun j hj => by
    have hpre : (s ++ [c]) <+: w := ⟨r, hs'⟩
    by_cases hji : j = i
    ·subst hji
     rw [hi] at hj
     have e : w = s ++ [c] := Option.some.inj hj
     rw [← hs'] at e
     have := congrArg List.length e
     simp at this
     exact hr this
    ·exact pf j i _ _ hji hj hi snoc_ne hpre
   have e2 : W.any (fun w => (s ++ [c]).isPrefixOf w) = true := List.any_eq_true.2 ⟨w, List.mem_of_getElem? hi, List.isPrefixOf_iff_prefix.2 ⟨r, hs'⟩⟩
   rw [find_none hno, e2]
   simp only [if_true]
   exact ih (s ++ [c]) t hs' hr
end Go.Proofs.YtboflbdniogcdaaGreatDoor
