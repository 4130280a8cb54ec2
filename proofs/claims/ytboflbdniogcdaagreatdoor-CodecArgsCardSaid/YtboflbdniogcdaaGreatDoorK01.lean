/-
  Parts of a proof.
-/
import Derived.Deep.RegionLaw
import Derived.WalkKit
import Derived.WalkSpells
import Derived.Deep.QuietTactic
import Derived.BigQuiet
import Derived.Lib.Hide
namespace Go.Mz
open Go.RowKit
set_option linter.unusedVariables false
set_option linter.unusedSimpArgs false
def Stopped (p : Prop) : Prop := p
theorem stop {p : Prop} (h : Stopped p) : p := h
theorem on {p : Prop} (h : p) : Stopped p := h
theorem stop_conv {P : Program} {ops : Array Oper} {rest : List Oper} {o : Oper} {a : Act} {w : World} {Q : Exit → Act → World → Prop} (src dst : TypeId) {x : Operand} (ho : o.op = .convert src dst x)
  (h : Stopped (wpList P ops Q (o :: rest) a w)) : wpList P ops Q (o :: rest) a w := h
abbrev Hl := Nat → Option Obj
def Hl.le (h : Hl) (w : World) : Prop := ∀ b o, h b = some o → w.heap[b]? = some o
def SProp := Hl → Prop
def star (A B : SProp) : SProp := fun h => ∃ h1 h2 : Hl, (∀ b, h1 b = none ∨ h2 b = none) ∧ (∀ b, h b = (h1 b).or (h2 b)) ∧ A h1 ∧ B h2
instance : Mul SProp := ⟨star⟩
def emp : SProp := fun h => ∀ b, h b = none
def blk (b : Nat) (o : Obj) : SProp := fun h => h = fun k => if k = b then some o else none
def lift (p : Prop) : SProp := fun h => p ∧ emp h
def sEx {α : Type} (A : α → SProp) : SProp := fun h => ∃ x, A x h
def old (w0 : World) : SProp := fun h => h = fun k => w0.heap[k]?
theorem star_comm (A B : SProp) : A * B = B * A := by
 have key : ∀ A B : SProp, ∀ h, (A * B) h → (B * A) h := by
  rintro A B h ⟨h1, h2, d, u, a, b⟩
  refine ⟨h2, h1, fun b => (d b).symm, fun b => ?_, b, a⟩
  rw [u b]
  rcases d b with e | e <;> simp [e]
 funext h
 exact propext ⟨key A B h, key B A h⟩
theorem star_assoc (A B C : SProp) : A * B * C = A * (B * C) := by
 funext h
 refine propext ⟨?_, ?_⟩
 ·rintro ⟨h12, h3, d, u, ⟨h1, h2, d', u', a, b⟩, c⟩
  refine ⟨h1, fun k => (h2 k).or (h3 k), fun k => ?_, fun k => ?_, a, ⟨h2, h3, fun k => ?_, fun k => rfl, b, c⟩⟩
  ·rcases d' k with e | e
   ·exact .inl e
   ·rcases d k with e' | e'
    ·rw [u' k] at e'; simp at e'; exact .inl e'.1
    ·exact .inr (by simp [e, e'])
  ·rw [u k, u' k]; cases e1 : h1 k <;> cases e2 : h2 k <;> cases e3 : h3 k <;> simp [e1, e2, e3]
  ·rcases d k with e' | e'
   ·rw [u' k] at e'; simp at e'; exact .inl e'.2
   ·exact .inr e'
 ·rintro ⟨h1, h23, d, u, a, ⟨h2, h3, d', u', b, c⟩⟩
  refine ⟨fun k => (h1 k).or (h2 k), h3, fun k => ?_, fun k => ?_, ⟨h1, h2, fun k => ?_, fun k => rfl, a, b⟩, c⟩
  ·rcases d' k with e | e
   ·rcases d k with e' | e'
    ·exact .inl (by simp [e, e'])
    ·rw [u' k] at e'; simp at e'; exact .inr e'.2
   ·exact .inr e
  ·rw [u k, u' k]; cases e1 : h1 k <;> cases e2 : h2 k <;> cases e3 : h3 k <;> simp [e1, e2, e3]
  ·rcases d k with e' | e'
   ·exact .inl e'
   ·rw [u' k] at e'; simp at e'; exact .inr e'.1
theorem star_left_comm (A B C : SProp) : A * (B * C) = B * (A * C) := by
 rw [← star_assoc, star_comm A B, star_assoc]
instance : Std.Associative (α := SProp) (· * ·) := ⟨star_assoc⟩
instance : Std.Commutative (α := SProp) (· * ·) := ⟨star_comm⟩
theorem emp_star (A : SProp) : emp * A = A := by
 funext h
 refine propext ⟨?_, fun a => ⟨fun _ => none, h, fun _ => .inl rfl, fun _ => by simp, fun _ => rfl, a⟩⟩
 rintro ⟨h1, h2, d, u, e, a⟩
 have : h = h2 := by funext b; rw [u b, e b]; simp
 rw [this]; exact a
structure St (w0 w : World) (A : SProp) : Prop where
 os : w.os = w0.os
 tape : w.tape = w0.tape
 output : w.output = w0.output
 size : w0.heap.size ≤ w.heap.size
 sat : ∃ h : Hl, A h ∧ h.le w
theorem St.init (w : World) : St w w (old w) := ⟨rfl, rfl, rfl, Nat.le_refl _, _, rfl, fun _ _ h => h⟩
theorem St.perm {w0 w : World} {A B : SProp} (h : St w0 w A) (e : A = B) : St w0 w B := e ▸ h
theorem St.imp {w0 w : World} {A B : SProp} (h : St w0 w A) (f : ∀ x, A x → B x) : St w0 w B :=
 let ⟨x, a, l⟩ := h.sat; ⟨h.os, h.tape, h.output, h.size, x, f x a, l⟩
theorem star_mono {A A' B B' : SProp} (f : ∀ x, A x → A' x) (g : ∀ x, B x → B' x) : ∀ x, (A * B) x → (A' * B') x :=
 fun _ ⟨h1, h2, d, u, a, b⟩ => ⟨h1, h2, d, u, f _ a, g _ b⟩
theorem St.imp_l {w0 w : World} {A A' F : SProp} (h : St w0 w (A * F)) (f : ∀ x, A x → A' x) : St w0 w (A' * F) :=
 h.imp (star_mono f fun _ b => b)
theorem St.left {w0 w : World} {A B : SProp} (h : St w0 w (A * B)) : St w0 w A := by
 obtain ⟨x, ⟨h1, h2, d, u, a, b⟩, l⟩ := h.sat
 refine ⟨h.os, h.tape, h.output, h.size, h1, a, fun k o e => l k o ?_⟩
 rw [u k, e]; rfl
theorem St.right {w0 w : World} {A B : SProp} (h : St w0 w (A * B)) : St w0 w B := (h.perm (star_comm A B)).left
theorem St.ex_l {w0 w : World} {α : Type} {A : α → SProp} {F : SProp} (h : St w0 w (sEx A * F)) : ∃ x, St w0 w (A x * F) := by
 obtain ⟨y, ⟨h1, h2, d, u, ⟨x, a⟩, b⟩, l⟩ := h.sat
 exact ⟨x, h.os, h.tape, h.output, h.size, y, ⟨h1, h2, d, u, a, b⟩, l⟩
theorem St.mk_ex_l {w0 w : World} {α : Type} {A : α → SProp} {F : SProp} (x : α) (h : St w0 w (A x * F)) : St w0 w (sEx A * F) :=
 h.imp_l fun _ a => ⟨x, a⟩
theorem St.pure_l {w0 w : World} {p : Prop} {F : SProp} (h : St w0 w (lift p * F)) : p ∧ St w0 w F := by
 refine ⟨?_, h.right⟩
 obtain ⟨y, ⟨h1, h2, d, u, ⟨hp, _⟩, b⟩, l⟩ := h.sat
 exact hp
theorem St.mk_pure_l {w0 w : World} {p : Prop} {F : SProp} (hp : p) (h : St w0 w F) : St w0 w (lift p * F) := by
 have e : St w0 w (emp * F) := h.perm (emp_star F).symm
 exact e.imp_l fun _ a => ⟨hp, a⟩
theorem St.drew {w0 w : World} {A : SProp} (h : St w0 w A) : St w0 w.drew A := ⟨h.os, h.tape, h.output, h.size, h.sat⟩
theorem St.drewN {w0 w : World} {A : SProp} (h : St w0 w A) (n : Nat) : St w0 (w.drewN n) A := ⟨h.os, h.tape, h.output, h.size, h.sat⟩
theorem St.at_ {w0 w : World} {b : Nat} {o : Obj} {F : SProp} (h : St w0 w (blk b o * F)) : w.heap[b]? = some o := by
 obtain ⟨y, a, l⟩ := h.left.sat
 obtain rfl : y = _ := a
 exact l b o (by simp)
theorem St.lt {w0 w : World} {b : Nat} {o : Obj} {F : SProp} (h : St w0 w (blk b o * F)) : b < w.heap.size := by
 have := h.at_
 rcases Nat.lt_or_ge b w.heap.size with g | g
 ·exact g
 ·simp [Array.getElem?_eq_none g] at this
theorem St.cells {w0 w : World} {b : Nat} {c : Array Value} {e : TypeId} {fr : Nat × Nat} {F : SProp} (h : St w0 w (blk b (.cells c e fr) * F)) (i : Nat) : w.cell? ⟨b, i, none⟩ = c[i]? := by
 simp [World.cell?, h.at_]
theorem St.cell {w0 w : World} {b : Nat} {c : Array Value} {e : TypeId} {fr : Nat × Nat} {F : SProp} (h : St w0 w (blk b (.cells c e fr) * F)) (i : Nat) {v : Value} (hv : c[i]? = some v) : w.cell? ⟨b, i, none⟩ = some v := by
 rw [h.cells, hv]
theorem St.free {w0 w : World} {b : Nat} {c : Array Value} {e : TypeId} {F : SProp} (h : St w0 w (blk b (.cells c e (0, 0)) * F)) (i : Nat) : w.frozen? ⟨b, i, none⟩ = false := by
 simp [World.frozen?, h.at_]
theorem St.ne {w0 w : World} {b b' : Nat} {o o' : Obj} {F : SProp} (h : St w0 w (blk b o * (blk b' o' * F))) : b ≠ b' := by
 obtain ⟨y, ⟨h1, h2, d, u, a, ⟨h3, h4, d', u', a', _⟩⟩, l⟩ := h.sat
 rintro rfl
 obtain rfl : h1 = _ := a
 obtain rfl : h3 = _ := a'
 rcases d b with e | e
 ·simp at e
 ·rw [u' b] at e; simp at e
theorem St.upd {w0 w w' : World} {b : Nat} {o o' : Obj} {F : SProp} (h : St w0 w (blk b o * F)) (h1 : w'.os = w.os) (h2 : w'.tape = w.tape) (h3 : w'.output = w.output)
  (h4 : w.heap.size ≤ w'.heap.size) (h5 : w'.heap[b]? = some o') (h6 : ∀ k, k < w.heap.size → k ≠ b → w'.heap[k]? = w.heap[k]?) : St w0 w' (blk b o' * F) := by
 obtain ⟨y, ⟨x1, x2, d, u, a, f⟩, l⟩ := h.sat
 obtain rfl : x1 = _ := a
 refine ⟨h1.trans h.os, h2.trans h.tape, h3.trans h.output, Nat.le_trans h.size h4, fun k => if k = b then some o' else x2 k, ⟨fun k => if k = b then some o' else none, x2, fun k => ?_, fun k => ?_, rfl, f⟩, fun k ob e => ?_⟩
 ·have := d k
  by_cases hk : k = b <;> simp_all
 ·by_cases hk : k = b <;> simp [hk]
 ·by_cases hk : k = b
  ·simp [hk] at e; rw [hk, h5, e]
  ·simp [hk] at e
   have hl := l k ob (by rw [u k]; simp [hk, e])
   have hlt : k < w.heap.size := by
    rcases Nat.lt_or_ge k w.heap.size with g | g
    ·exact g
    ·simp [Array.getElem?_eq_none g] at hl
   rw [h6 k hlt hk, hl]
theorem St.set {w0 w : World} {b : Nat} {c : Array Value} {e : TypeId} {fr : Nat × Nat} {F : SProp} (h : St w0 w (blk b (.cells c e fr) * F)) (i : Nat) (v : Value) :
  St w0 (w.setCell ⟨b, i, none⟩ v) (blk b (.cells (c.setIfInBounds i v) e fr) * F) := by
 refine h.upd rfl rfl rfl (by simp) ?_ (fun k _ hk => Below.heap_setCell _ _ _ _ hk)
 simp [World.setCell, Array.getElem?_modify, h.at_]
theorem St.ext {w0 w w' : World} {F : SProp} (h : St w0 w F) (h1 : w'.os = w.os) (h2 : w'.tape = w.tape) (h3 : w'.output = w.output)
  (h4 : w.heap.size ≤ w'.heap.size) (h6 : ∀ k, k < w.heap.size → w'.heap[k]? = w.heap[k]?) : St w0 w' F := by
 obtain ⟨y, a, l⟩ := h.sat
 refine ⟨h1.trans h.os, h2.trans h.tape, h3.trans h.output, Nat.le_trans h.size h4, y, a, fun k ob e => ?_⟩
 have hl := l k ob e
 have hlt : k < w.heap.size := by
  rcases Nat.lt_or_ge k w.heap.size with g | g
  ·exact g
  ·simp [Array.getElem?_eq_none g] at hl
 rw [h6 k hlt, hl]
theorem St.new {w0 w w' : World} {F : SProp} {b : Nat} {o : Obj} (h : St w0 w F) (h1 : w'.os = w.os) (h2 : w'.tape = w.tape) (h3 : w'.output = w.output)
  (h4 : w.heap.size ≤ w'.heap.size) (hb : w.heap.size ≤ b) (h5 : w'.heap[b]? = some o) (h6 : ∀ k, k < w.heap.size → w'.heap[k]? = w.heap[k]?) : St w0 w' (blk b o * F) := by
 obtain ⟨y, a, l⟩ := h.sat
 have hnone : y b = none := by
  cases hy : y b with
  | none => rfl
  | some ob =>
   have := l b ob hy
   simp [Array.getElem?_eq_none hb] at this
 refine ⟨h1.trans h.os, h2.trans h.tape, h3.trans h.output, Nat.le_trans h.size h4, fun k => if k = b then some o else y k, ⟨fun k => if k = b then some o else none, y, fun k => ?_, fun k => ?_, rfl, a⟩, fun k ob e => ?_⟩
 ·by_cases hk : k = b <;> simp [hk, hnone]
 ·by_cases hk : k = b <;> simp [hk]
 ·by_cases hk : k = b
  ·simp [hk] at e; rw [hk, h5, e]
  ·simp [hk] at e
   exact (h.ext h1 h2 h3 h4 h6).sat.elim fun _ _ => by
    have hl := l k ob e
    have hlt : k < w.heap.size := by
     rcases Nat.lt_or_ge k w.heap.size with g | g
     ·exact g
     ·simp [Array.getElem?_eq_none g] at hl
    rw [h6 k hlt, hl]
theorem St.alloc {w0 w : World} {F : SProp} (h : St w0 w F) (o : Obj) : St w0 (w.alloc o) (blk w.heap.size o * F) :=
 h.new rfl rfl rfl (by simp) (Nat.le_refl _) (heap_alloc_new w o) (fun k hk => Below.heap_alloc _ _ _ hk)
theorem St.drop_alloc {w0 w : World} {F : SProp} (h : St w0 w F) (o : Obj) : St w0 (w.alloc o) F := (h.alloc o).right
theorem St.old_at {w0 w : World} {F : SProp} (h : St w0 w (old w0 * F)) {k : Nat} (hk : k < w0.heap.size) : w.heap[k]? = w0.heap[k]? := by
 obtain ⟨y, a, l⟩ := h.left.sat
 obtain rfl : y = _ := a
 have e : w0.heap[k]? = some w0.heap[k] := by simp [hk]
 rw [e]; exact l k _ e
theorem St.below {w0 w : World} {F : SProp} (h : St w0 w (old w0 * F)) : Below w0.heap.size w0 w :=
 ⟨h.os, h.tape, h.output, h.size, fun k hk => h.old_at hk⟩
def Stb (w0 : World) (F : SProp) (p : World → Prop) : Prop := ∀ w, St w0 w F → p w
theorem Stb.more {w0 : World} {F : SProp} {p : World → Prop} (h : Stb w0 F p) (A : SProp) : Stb w0 (A * F) p := fun w s => h w s.right
def Reads (w : World) (size : Nat) (v : Value) (n : Nat) (xs : List Value) : Prop :=
 xs.length = n * size ∧ ((v = .slice none 0 0 ∧ n = 0) ∨ ∃ x cap, v = .slice (some x) n cap ∧ n ≤ cap ∧ cap ≤ maxLen ∧ ∀ j u, xs[j]? = some u → w.cell? (x.add j) = some u)
def own (e : TypeId) (size : Nat) (v : Value) (n : Nat) (xs : List Value) : SProp := fun h =>
 xs.length = n * size ∧ ((v = .slice none 0 0 ∧ n = 0 ∧ emp h) ∨
  ∃ g cap cur, v = .slice (some ⟨g, 0, none⟩) n cap ∧ n ≤ cap ∧ cap ≤ maxLen ∧ cur.size = cap * size ∧ cur.toList.take (n * size) = xs ∧ blk g (.cells cur e (0, 0)) h)
theorem St.own_split {w0 w : World} {e : TypeId} {size : Nat} {v : Value} {n : Nat} {xs : List Value} {F : SProp} (h : St w0 w (own e size v n xs * F)) :
  xs.length = n * size ∧ ((v = .slice none 0 0 ∧ n = 0 ∧ St w0 w F) ∨
   ∃ g cap cur, v = .slice (some ⟨g, 0, none⟩) n cap ∧ n ≤ cap ∧ cap ≤ maxLen ∧ cur.size = cap * size ∧ cur.toList.take (n * size) = xs ∧ St w0 w (blk g (.cells cur e (0, 0)) * F)) := by
 have hr := h.right
 obtain ⟨y, ⟨h1, h2, d, u, ⟨hl, a⟩, f⟩, l⟩ := h.sat
 refine ⟨hl, ?_⟩
 rcases a with ⟨a1, a2, _⟩ | ⟨g, cap, cur, a1, a2, a3, a4, a5, a6⟩
 ·exact .inl ⟨a1, a2, hr⟩
 ·exact .inr ⟨g, cap, cur, a1, a2, a3, a4, a5, h.os, h.tape, h.output, h.size, y, ⟨h1, h2, d, u, a6, f⟩, l⟩
theorem St.own_blk {w0 w : World} {e : TypeId} {size : Nat} {n cap g : Nat} {xs : List Value} {cur : Array Value} {F : SProp} (h : St w0 w (blk g (.cells cur e (0, 0)) * F))
  (hn : n ≤ cap) (hc : cap ≤ maxLen) (hs : cur.size = cap * size) (ht : cur.toList.take (n * size) = xs) : St w0 w (own e size (.slice (some ⟨g, 0, none⟩) n cap) n xs * F) :=
 h.imp_l fun x b => ⟨by rw [← ht, List.length_take, Nat.min_eq_left]; rw [Array.length_toList, hs]; exact Nat.mul_le_mul_right _ hn, .inr ⟨g, cap, cur, rfl, hn, hc, hs, ht, b⟩⟩
theorem St.own_nil {w0 w : World} {F : SProp} (e : TypeId) (size : Nat) (h : St w0 w F) : St w0 w (own e size (.slice none 0 0) 0 [] * F) := by
 have e' : St w0 w (emp * F) := h.perm (emp_star F).symm
 exact e'.imp_l fun _ a => ⟨by simp, .inl ⟨rfl, rfl, a⟩⟩
theorem St.own_ne {w0 w : World} {e : TypeId} {size g cap n b : Nat} {o : Obj} {xs : List Value} {F : SProp} (h : St w0 w (blk b o * (own e size (.slice (some ⟨g, 0, none⟩) n cap) n xs * F))) : ¬ g = b := by
 obtain ⟨y, ⟨h1, h2, d, u, a, ⟨h3, h4, d', u', ⟨_, a'⟩, _⟩⟩, l⟩ := h.sat
 rintro rfl
 obtain rfl : h1 = _ := a
 rcases a' with ⟨e1, _⟩ | ⟨g', cap', cur, e1, _, _, _, _, e2⟩
 ·cases e1
 ·cases e1
  obtain rfl : h3 = _ := e2
  rcases d g with e | e
  ·simp at e
  ·rw [u' g] at e; simp at e
theorem St.own_row {w0 w : World} {e : TypeId} {size : Nat} {v : Value} {n : Nat} {xs : List Value} {F : SProp} (h : St w0 w (own e size v n xs * F)) : w.ownsRow 0 e size v n xs := by
 obtain ⟨hl, a⟩ := h.own_split
 refine ⟨hl, ?_⟩
 rcases a with ⟨a1, a2, _⟩ | ⟨g, cap, cur, a1, a2, a3, a4, a5, a6⟩
 ·exact .inl ⟨a1, a2⟩
 ·exact .inr ⟨g, cap, cur, a1, Nat.zero_le _, a6.at_, a2, a3, a4, a5⟩
theorem St.reads {w0 w : World} {e : TypeId} {size : Nat} {v : Value} {n : Nat} {xs : List Value} {F : SProp} (h : St w0 w (own e size v n xs * F)) : Reads w size v n xs := by
 obtain ⟨hl, a⟩ := h.own_split
 refine ⟨hl, ?_⟩
 rcases a with ⟨a1, a2, _⟩ | ⟨g, cap, cur, a1, a2, a3, a4, a5, a6⟩
 ·exact .inl ⟨a1, a2⟩
 ·refine .inr ⟨_, cap, a1, a2, a3, fun j u hu => ?_⟩
  rw [Addr.add_lit, Nat.zero_add, a6.cells]
  subst a5
  rw [List.getElem?_take] at hu
  split at hu
  ·simpa using hu
  ·cases hu
theorem Reads.cell {w : World} {v : Value} {n : Nat} {xs : List Value} (h : Reads w 1 v n xs) {j : Nat} (hj : j < n) : ∃ b off cap, v = .slice (some ⟨b, off, none⟩) n cap ∧ w.cell? ⟨b, off + j, none⟩ = xs[j]? := by
 obtain ⟨hl, ⟨_, rfl⟩ | ⟨⟨b, off, spot⟩, cap, a1, a2, a3, a4⟩⟩ := h
 ·omega
 ·have hx : xs[j]? = some xs[j] := by simp [show j < xs.length by omega]
  have h0 := a4 0 xs[0] (by simp [show 0 < xs.length by omega])
  have hspot : spot = none := by simpa [Addr.add] using World.cell?_spot h0
  subst hspot
  have hc := a4 j _ hx
  rw [Addr.add_lit] at hc
  exact ⟨b, off, cap, a1, by rw [hc, hx]⟩
theorem Reads.len_le {w : World} {v : Value} {n : Nat} {xs : List Value} {size : Nat} (h : Reads w size v n xs) : n ≤ maxLen := by
 obtain ⟨hl, ⟨rfl, rfl⟩ | ⟨x, cap, a1, a2, a3, _⟩⟩ := h
 ·exact Nat.zero_le _
 ·omega
theorem Reads.at_ {w : World} {a : Option Addr} {cap n : Nat} {xs : List Value} (h : Reads w 1 (.slice a n cap) n xs) {j : Nat} (hj : j < n) : ∃ b off, a = some ⟨b, off, none⟩ ∧ w.cell? ⟨b, off + j, none⟩ = xs[j]? := by
 obtain ⟨b, off, c, e, hc⟩ := h.cell hj
 cases e
 exact ⟨b, off, rfl, hc⟩
theorem Reads.sub {w : World} {v : Value} {n : Nat} {xs : List Value} {size : Nat} (h : Reads w size v n xs) : ∃ a cap, v = .slice a n cap := by
 obtain ⟨hl, ⟨rfl, rfl⟩ | ⟨x, cap, a1, _⟩⟩ := h
 ·exact ⟨_, _, rfl⟩
 ·exact ⟨_, _, a1⟩
theorem Reads.same {w w' : World} {v : Value} {n : Nat} {xs : List Value} {size : Nat} (h : Reads w size v n xs) (hw : ∀ a, (w.cell? a).isSome → w'.cell? a = w.cell? a) : Reads w' size v n xs := by
 obtain ⟨hl, a | ⟨x, cap, a1, a2, a3, a4⟩⟩ := h
 ·exact ⟨hl, .inl a⟩
 ·exact ⟨hl, .inr ⟨x, cap, a1, a2, a3, fun j u hu => by rw [hw _ (by rw [a4 j u hu]; rfl)]; exact a4 j u hu⟩⟩
theorem St.lit {w0 w : World} {F : SProp} (h : St w0 w F) (c : Array Value) (e : TypeId) (n : Nat) (hn : c.size = n) (hm : n ≤ maxLen) :
  St w0 (w.alloc (.cells c e)) (own e 1 (.slice (some ⟨w.heap.size, 0, none⟩) n n) n c.toList * F) :=
 St.own_blk (h.alloc (.cells c e)) (Nat.le_refl _) hm (by omega) (by rw [Nat.mul_one]; exact List.take_of_length_le (by simp; omega))
theorem Stb.of_own {w0 : World} {e : TypeId} {size : Nat} {v : Value} {n : Nat} {xs : List Value} {F : SProp} : Stb w0 (own e size v n xs * F) (fun w => Reads w size v n xs) := fun _ h => h.reads
theorem Stb.of_old {w0 : World} {size : Nat} {v : Value} {n : Nat} {xs : List Value} (h : Reads w0 size v n xs) : Stb w0 (old w0) (fun w => Reads w size v n xs) := fun w s => by
 refine h.same fun b hb => ?_
 have e : w.heap[b.block]? = w0.heap[b.block]? := by
  have s' : St w0 w (old w0 * emp) := s.perm ((emp_star _).symm.trans (star_comm _ _))
  refine s'.old_at ?_
  obtain ⟨x, hx⟩ := Option.isSome_iff_exists.1 hb
  exact World.block_lt_of_cell? _ _ hx
 simp [World.cell?, e]
theorem St.own_set {w0 w : World} {e : TypeId} {g n cap : Nat} {xs : List Value} {F : SProp} (h : St w0 w (own e 1 (.slice (some ⟨g, 0, none⟩) n cap) n xs * F)) (i : Nat) (u : Value) :
  St w0 (w.setCell ⟨g, i, none⟩ u) (own e 1 (.slice (some ⟨g, 0, none⟩) n cap) n (xs.set i u) * F) := by
 obtain ⟨hl, ⟨a1, _⟩ | ⟨g', cap', cur, a1, a2, a3, a4, a5, a6⟩⟩ := h.own_split
 ·cases a1
 ·cases a1
  refine St.own_blk (a6.set i u) a2 a3 (by simpa using a4) ?_
  rw [← a5, Array.toList_setIfInBounds, List.take_set]
theorem St.own_free {w0 w : World} {e : TypeId} {g n cap size : Nat} {xs : List Value} {F : SProp} (h : St w0 w (own e size (.slice (some ⟨g, 0, none⟩) n cap) n xs * F)) (i : Nat) : w.frozen? ⟨g, i, none⟩ = false := by
 obtain ⟨hl, ⟨a1, _⟩ | ⟨g', cap', cur, a1, a2, a3, a4, a5, a6⟩⟩ := h.own_split
 ·cases a1
 ·cases a1
  exact a6.free i
theorem St.own_cell {w0 w : World} {e : TypeId} {g n cap : Nat} {xs : List Value} {F : SProp} (h : St w0 w (own e 1 (.slice (some ⟨g, 0, none⟩) n cap) n xs * F)) {i : Nat} {u : Value} (hu : xs[i]? = some u) : w.cell? ⟨g, i, none⟩ = some u := by
 obtain ⟨hl, ⟨a1, _⟩ | ⟨x, c, a1, a2, a3, a4⟩⟩ := h.reads
 ·cases a1
 ·cases a1
  have := a4 i u hu
  rw [Addr.add_lit, Nat.zero_add] at this
  exact this
structure ElemT (P : Program) (t e : TypeId) (size bytes : Nat) (z : Value) : Prop where
 sl : P.underlying t = some (.slice e)
 inf : ∃ i, P.info? e = some i ∧ i.zero = some z ∧ i.size = size ∧ i.bytes = bytes
 zs : z.cells.size = size
 pos : 0 < size
theorem run_append_sep {P : Program} {w0 w : World} {F : SProp} {t e : TypeId} {size bytes : Nat} {z : Value} (T : ElemT P t e size bytes z) (ty : TypeId) {v : Value} {n : Nat} {xs : List Value}
  (h : St w0 w (own e size v n xs * F)) {x : Value} {m : Nat} {news : List Value} (hx : Reads w size x m news) (h1 : ∀ u ∈ news, u.oneCell' = true)
  (h63 : n + m ≤ maxLen) (hbytes : (n + m) * bytes ≤ 140737488355328) :
  ∃ v' w', (Builtin.append_ #[t, t] ty #[v, x]).run P w = .ok v' w' ∧ St w0 w' (own e size v' (n + m) (xs ++ news) * F) ∧ (v' = .slice none 0 0 ↔ v = .slice none 0 0 ∧ m = 0) := by
 obtain ⟨ht, ⟨i, hi, hz, rfl, rfl⟩, hzs, hsz⟩ := T
 obtain ⟨hxl, hx⟩ := hx
 rcases hx with ⟨rfl, rfl⟩ | ⟨ax, cap', rfl, hc1, hc2, hnews⟩
 ·have hn : news = [] := List.eq_nil_of_length_eq_zero (by simpa using hxl)
  subst hn
  refine ⟨v, w, run_append_owned_none w 0 t ty e i i.size ht hi v n xs h.own_row, by simpa using h, by simp⟩
 have hsmall : n + m ≤ 9223372036854775807 := by simp only [maxLen] at h63; omega
 obtain ⟨hl, a⟩ := h.own_split
 have hlen : (xs ++ news).length = (n + m) * i.size := by rw [List.length_append, hl, hxl, Nat.add_mul]
 have grown : St w0 w F → ∀ (old : Nat), old < n + m →
   St w0 (w.drew.alloc (.cells (xs.toArray ++ news.toArray ++ Builtin.zeroCells z.cells (grownCap w (n + m) old e - (n + m))) e))
    (own e i.size (.slice (some ⟨w.heap.size, 0, none⟩) (n + m) (grownCap w (n + m) old e)) (n + m) (xs ++ news) * F) := by
  intro hF old ho
  have hge := grownCap_ge w (n + m) old e
  have hcm : grownCap w (n + m) old e ≤ maxLen := grownCap_le_maxLen w (n + m) old e h63
  have ha := hF.drew.alloc (.cells (xs.toArray ++ news.toArray ++ Builtin.zeroCells z.cells (grownCap w (n + m) old e - (n + m))) e)
  refine ha.own_blk hge hcm ?_ ?_
  ·simp only [Array.size_append, List.size_toArray, size_zeroCells, hzs, hl, hxl, ← Nat.add_mul]
   congr 1
   omega
  ·simp only [Array.toList_append, List.append_assoc]
   rw [← List.append_assoc, ← hlen]
   exact List.take_left
 rcases a with ⟨rfl, rfl, hF⟩ | ⟨g, cap, cur, rfl, hnc, hcm, hcs, htake, hB⟩
 ·have hx0 : xs = [] := List.eq_nil_of_length_eq_zero (by simpa using hl)
  subst hx0
  by_cases hm : m = 0
  ·subst hm
   have hn : news = [] := List.eq_nil_of_length_eq_zero (by simpa using hxl)
   subst hn
   refine ⟨.slice none 0 0, w, ?_, h, by simp⟩
   simp [Builtin.append_, run_underlying ht, sizeOf, typeInfo, hi, Builtin.lenOf, Builtin.firstCells, loadCells, loadCellsFrom]
  ·have hr := run_append_nil (P := P) w t ty e i z ht hi hz ax m cap' news hxl hnews (by omega) (by omega) (by have hb := hbytes; simp only [Nat.zero_add] at hb; omega)
   have hgr := grown hF 0 (by omega)
   simp only [Nat.zero_add, List.nil_append, Array.empty_append] at hgr ⊢
   exact ⟨_, _, hr, hgr, by simp [hm]⟩
 ·by_cases hroom : n + m ≤ cap
  ·have hfit : n * i.size + news.length ≤ cur.size := by rw [hxl, hcs, ← Nat.add_mul]; exact Nat.mul_le_mul_right _ hroom
   have hr := run_append_room (P := P) w t ty e i ht hi g n cap cur hB.at_ ax m cap' news hxl hnews h1 hroom hfit
   refine ⟨_, _, hr, ?_, by simp⟩
   refine St.own_blk (cur := (cur.toList.take (n * i.size) ++ news ++ cur.toList.drop (n * i.size + news.length)).toArray) (hB.upd rfl rfl rfl (by simp) ?_ ?_) hroom hcm ?_ ?_
   ·exact setRow_heap w g cur _ e _ hB.at_
   ·exact fun k _ hk => setRow_other w g k _ (fun e => hk (by simp [e]))
   ·simp only [List.size_toArray, List.length_append, List.length_take, List.length_drop, Array.length_toList]
    omega
   ·rw [htake, ← hlen]
    exact List.take_left
  ·have holds : ∀ j u, xs[j]? = some u → w.cell? ((⟨g, 0, none⟩ : Addr).add j) = some u := by
    intro j u hu
    rw [Addr.add_lit, Nat.zero_add, hB.cells]
    subst htake
    rw [List.getElem?_take] at hu
    split at hu
    ·simpa using hu
    ·cases hu
   have hr := run_append_grow (P := P) w t ty e i z ht hi hz ⟨g, 0, none⟩ n cap xs hl holds ax m cap' news hxl hnews (by omega) (by omega) (growslice_fits (by omega) hbytes)
   exact ⟨_, _, hr, grown hB.right cap (by omega), by simp⟩
theorem wpList_append_sep {P : Program} {w0 w : World} {F : SProp} {t e : TypeId} {size bytes : Nat} {z : Value} (T : ElemT P t e size bytes z)
  {ops : Array Oper} {rest : List Oper} {o : Oper} {a : Act} {Q : Exit → Act → World → Prop} (hgd : o.guard = none) (s y : Operand)
  (ho : o.op = .call { callee := .builtin .append, args := #[s, y], argTypes := #[t, t] }) {v : Value} {n : Nat} {xs : List Value} (hs : a.eval s = v)
  (h : St w0 w (own e size v n xs * F)) {x : Value} {m : Nat} {news : List Value} (hy : a.eval y = x) (hx : Reads w size x m news) (h1 : ∀ u ∈ news, u.oneCell' = true)
  (h63 : n + m ≤ maxLen) (hbytes : (n + m) * bytes ≤ 140737488355328)
  (hK : ∀ v' w', St w0 w' (own e size v' (n + m) (xs ++ news) * F) → (v' = .slice none 0 0 ↔ v = .slice none 0 0 ∧ m = 0) → wpList P ops Q rest (a.put o.dst v') w') : wpList P ops Q (o :: rest) a w := by
 refine wpList_plain hgd fun K hk => ?_
 obtain ⟨v', w', hr, h2, h3⟩ := run_append_sep T o.type h hx h1 h63 hbytes
 unfold Oper.wp execOp
 simp only [ho, resolve, invoke, builtin, Sem.run_bind, Sem.run_pure, Result.andThen_ok, List.map_toArray, List.map_cons, List.map_nil, hs, hy, hr]
 exact hk _ _ (hK v' w' h2 h3)
end Go.Mz
namespace Go.Mz
open Go.RowKit
set_option linter.unusedVariables false
set_option linter.unusedSimpArgs false
def bv (c : UInt8) : Value := .int .u8 (c.toNat : Int)
def bitV (bs : List UInt8) (low : Bool) (i : Nat) : Nat := (bs.getD (i / 8) 0).toNat / 2 ^ (cond low (i % 8) (7 - i % 8)) % 2
def numV (low : Bool) (f : Nat → Nat) : Nat → Nat
 | 0 => 0
 | n + 1 => cond low (numV low f n + f n * 2 ^ n) (numV low f n * 2 + f n)
def peekV (bs : List UInt8) (low : Bool) (p n : Nat) : Nat := numV low (fun i => bitV bs low (p + i)) n
theorem bitV_le (bs : List UInt8) (low : Bool) (i : Nat) : bitV bs low i ≤ 1 := by unfold bitV; omega
theorem bitV_out (bs : List UInt8) (low : Bool) (i : Nat) (h : 8 * bs.length ≤ i) : bitV bs low i = 0 := by
 unfold bitV
 rw [List.getD_eq_getElem?_getD, List.getElem?_eq_none (by omega)]
 simp
theorem numV_lt (low : Bool) (f : Nat → Nat) (hf : ∀ i, f i ≤ 1) : ∀ n, numV low f n < 2 ^ n
 | 0 => by simp [numV]
 | n + 1 => by
  have h := numV_lt low f hf n
  have h1 := hf n
  rw [Nat.pow_succ]
  cases low <;> simp only [numV, cond]
  ·omega
  ·have : f n * 2 ^ n ≤ 1 * 2 ^ n := Nat.mul_le_mul_right _ h1
   omega
theorem peekV_lt (bs : List UInt8) (low : Bool) (p n : Nat) : peekV bs low p n < 2 ^ n := numV_lt _ _ (fun _ => bitV_le _ _ _) n
theorem pow32 {n : Nat} (h : n ≤ 32) : 2 ^ n ≤ 4294967296 := Nat.pow_le_pow_right (n := 2) (by decide) h
theorem and1_u32 (x : Nat) (h : x < 4294967296) : bits .and .u32 (x : Int) 1 = ((x % 2 : Nat) : Int) := by
 have := u32_and_nat x 1 h (by decide)
 rw [nat_mask1] at this; exact this
theorem or_hi {x b k : Nat} (hx : x < 2 ^ k) (hk : k < 32) (hb : b ≤ 1) : bits .or .u32 ((x : Int) * 2 % 4294967296) (b : Int) = ((x * 2 + b : Nat) : Int) := by
 have h2 : x * 2 < 4294967296 := by
  have := pow32 (n := k + 1) (by omega)
  rw [Nat.pow_succ] at this; omega
 have e : (x : Int) * 2 % 4294967296 = ((x * 2 : Nat) : Int) := by omega
 rw [e, u32_or_nat _ _ h2 (by omega)]
 congr 1
 exact nat_join 1 (x * 2) b (by omega) (by omega)
theorem or_lo {x b k : Nat} (hx : x < 2 ^ k) (hk : k < 32) (hb : b ≤ 1) : bits .or .u32 (x : Int) ((b : Int) * 2 ^ k % 4294967296) = ((x + b * 2 ^ k : Nat) : Int) := by
 have h1 := pow32 (n := k + 1) (by omega)
 rw [Nat.pow_succ] at h1
 have h3 : b * 2 ^ k ≤ 1 * 2 ^ k := Nat.mul_le_mul_right _ hb
 have e : (b : Int) * 2 ^ k % 4294967296 = ((b * 2 ^ k : Nat) : Int) := by
  have e1 : ((b * 2 ^ k : Nat) : Int) = (b : Int) * 2 ^ k := by simp
  rw [← e1]
  generalize b * 2 ^ k = y at *
  omega
 rw [e, u32_or_nat _ _ (by omega) (by omega)]
 congr 1
 rw [Nat.or_comm, nat_join k (b * 2 ^ k) x (by simp) hx, Nat.add_comm]
theorem peekV_succ_hi (bs : List UInt8) (p k : Nat) : peekV bs false p (k + 1) = peekV bs false p k * 2 + bitV bs false (p + k) := rfl
theorem peekV_succ_lo (bs : List UInt8) (p k : Nat) : peekV bs true p (k + 1) = peekV bs true p k + bitV bs true (p + k) * 2 ^ k := rfl
theorem run_b2s {P : Program} {w : World} {src dst e : TypeId} (hs : P.underlying src = some (.slice e)) (he : P.underlying e = some (.int .u8)) (hd : P.underlying dst = some .string)
  {v : Value} {n : Nat} {bs : List UInt8} (hr : Reads w 1 v n (bs.map bv)) : (convert src dst v).run P w = .ok (.string ⟨bs.toArray⟩) w := by
 obtain ⟨hl, ⟨rfl, rfl⟩ | ⟨x, cap, rfl, h1, h2, h3⟩⟩ := hr
 ·have hb : bs = [] := List.eq_nil_of_length_eq_zero (by simpa using hl)
  subst hb
  exact run_convert_bytes_nil w src e hs he 0 0 dst hd
 ·have hn : bs.length = n := by simpa using hl
  subst hn
  exact run_convert_bytes_back w src dst e x cap bs hs he hd fun j hj => h3 j _ (by simp [hj, bv])
theorem wpList_b2s {P : Program} {src dst e : TypeId} (hs : P.underlying src = some (.slice e)) (he : P.underlying e = some (.int .u8)) (hd : P.underlying dst = some .string)
  {ops : Array Oper} {rest : List Oper} {o : Oper} {a : Act} {w : World} {Q : Exit → Act → World → Prop} (hg : o.guard = none) {x : Operand} (ho : o.op = .convert src dst x)
  {n : Nat} {bs : List UInt8} (hr : Reads w 1 (a.eval x) n (bs.map bv)) (hK : wpList P ops Q rest (a.put o.dst (.string ⟨bs.toArray⟩)) w) : wpList P ops Q (o :: rest) a w := by
 refine wpList_plain hg fun K hk => ?_
 unfold Oper.wp execOp
 simp only [ho, Sem.run_bind, run_b2s hs he hd hr, Result.andThen_ok, Sem.run_pure]
 exact hk _ _ hK
theorem reads_one (w : World) (e : TypeId) (c : UInt8) {z : Int} (hz : z = (c.toNat : Int)) :
  Reads (w.alloc (.cells #[.int .u8 z] e)) 1 (.slice (some ⟨w.heap.size, 0, none⟩) 1 1) 1 ([c].map bv) := by
 subst hz
 exact ((St.init w).lit #[.int .u8 (c.toNat : Int)] e 1 rfl (by decide)).reads
end Go.Mz
namespace Go.Mz
open Go.RowKit
set_option linter.unusedVariables false
set_option linter.unusedSimpArgs false
def dg (b : Nat) : UInt8 := UInt8.ofNat (48 + b)
def tx (l : List Nat) : List UInt8 := l.map dg
def Bit (l : List Nat) : Prop := ∀ b ∈ l, b ≤ 1
def wordB (v : Nat) : Nat → List Nat
 | 0 => []
 | n + 1 => (v / 2 ^ n % 2) :: wordB v n
def numB (l : List Nat) : Nat := l.foldl (fun v b => v * 2 + b) 0
def bits8 (low : Bool) (c : UInt8) : List Nat := cond low (wordB c.toNat 8).reverse (wordB c.toNat 8)
def bitsL (low : Bool) (bs : List UInt8) : List Nat := bs.flatMap (bits8 low)
@[simp] theorem length_tx (l : List Nat) : (tx l).length = l.length := by simp [tx]
@[simp] theorem tx_nil : tx [] = [] := rfl
@[simp] theorem tx_cons (b : Nat) (l : List Nat) : tx (b :: l) = dg b :: tx l := rfl
theorem toNat_dg {b : Nat} (h : b ≤ 1) : (dg b).toNat = 48 + b := by simp [dg]; omega
@[simp] theorem length_wordB (v n : Nat) : (wordB v n).length = n := by induction n <;> simp_all [wordB]
theorem bit_wordB (v n : Nat) : Bit (wordB v n) := by
 induction n with
 | zero => intro b hb; simp [wordB] at hb
 | succ n ih => intro b hb; simp [wordB] at hb; rcases hb with rfl | hb; omega; exact ih b hb
theorem Bit.reverse {l : List Nat} (h : Bit l) : Bit l.reverse := fun b hb => h b (by simpa using hb)
theorem Bit.append {l m : List Nat} (h : Bit l) (k : Bit m) : Bit (l ++ m) := fun b hb => by rcases List.mem_append.1 hb with e | e; exact h b e; exact k b e
theorem Bit.take {l : List Nat} (h : Bit l) (k : Nat) : Bit (l.take k) := fun b hb => h b (List.mem_of_mem_take hb)
theorem Bit.drop {l : List Nat} (h : Bit l) (k : Nat) : Bit (l.drop k) := fun b hb => h b (List.mem_of_mem_drop hb)
theorem bit_rep (n : Nat) : Bit (List.replicate n 0) := fun b hb => by simp at hb; omega
theorem Bit.getD {l : List Nat} (h : Bit l) (k : Nat) : l.getD k 0 ≤ 1 := by
 rw [List.getD_eq_getElem?_getD]
 cases e : l[k]? with
 | none => simp
 | some b => exact h b (List.mem_of_getElem? e)
theorem bit_bits8 (low : Bool) (c : UInt8) : Bit (bits8 low c) := by cases low; exact bit_wordB _ _; exact (bit_wordB _ _).reverse
@[simp] theorem length_bits8 (low : Bool) (c : UInt8) : (bits8 low c).length = 8 := by cases low <;> simp [bits8]
theorem bit_bitsL (low : Bool) (bs : List UInt8) : Bit (bitsL low bs) := fun b hb => by
 obtain ⟨c, _, h⟩ := List.mem_flatMap.1 hb
 exact bit_bits8 low c b h
@[simp] theorem length_bitsL (low : Bool) (bs : List UInt8) : (bitsL low bs).length = 8 * bs.length := by
 induction bs with
 | nil => rfl
 | cons c l ih => simp [bitsL] at ih ⊢; omega
theorem bitsL_append (low : Bool) (a b : List UInt8) : bitsL low (a ++ b) = bitsL low a ++ bitsL low b := by simp [bitsL]
theorem wordB_get (v n i : Nat) (h : i < n) : (wordB v n)[i]? = some (v / 2 ^ (n - 1 - i) % 2) := by
 induction n generalizing i with
 | zero => omega
 | succ n ih =>
  cases i with
  | zero => simp [wordB]
  | succ i => simp only [wordB, List.getElem?_cons_succ]; rw [ih i (by omega)]; congr 4; omega
theorem bits8_get (low : Bool) (c : UInt8) (i : Nat) (h : i < 8) : (bits8 low c)[i]? = some (c.toNat / 2 ^ (cond low i (7 - i)) % 2) := by
 cases low
 ·simp only [bits8, cond]; exact wordB_get _ 8 i h
 ·simp only [bits8, cond]
  rw [List.getElem?_reverse (by simpa using h), length_wordB, wordB_get _ 8 _ (by omega)]
  congr 4; omega
theorem bitsL_get (low : Bool) (bs : List UInt8) (i : Nat) (h : i < 8 * bs.length) : (bitsL low bs)[i]? = some (bitV bs low i) := by
 induction bs generalizing i with
 | nil => simp at h
 | cons c l ih =>
  have e : bitsL low (c :: l) = bits8 low c ++ bitsL low l := by simp [bitsL]
  rw [e]
  by_cases hi : i < 8
  ·rw [List.getElem?_append_left (by simpa using hi), bits8_get _ _ _ hi]
   have h1 : i / 8 = 0 := by omega
   have h2 : i % 8 = i := by omega
   simp [bitV, h1, h2]
  ·rw [List.getElem?_append_right (by simp; omega), length_bits8, ih _ (by simp at h; omega)]
   have h1 : i / 8 = (i - 8) / 8 + 1 := by omega
   have h2 : i % 8 = (i - 8) % 8 := by omega
   simp [bitV, h1, h2]
theorem bitsL_getD (low : Bool) (bs : List UInt8) (i : Nat) : (bitsL low bs).getD i 0 = bitV bs low i := by
 by_cases h : i < 8 * bs.length
 ·rw [List.getD_eq_getElem?_getD, bitsL_get _ _ _ h]; rfl
 ·rw [bitV_out _ _ _ (by omega), List.getD_eq_getElem?_getD, List.getElem?_eq_none (by simp; omega)]; rfl
theorem foldl_num (l : List Nat) (a : Nat) : l.foldl (fun v b => v * 2 + b) a = a * 2 ^ l.length + numB l := by
 induction l generalizing a with
 | nil => simp [numB]
 | cons b l ih =>
  simp only [numB, List.foldl_cons, List.length_cons, Nat.pow_succ]
  rw [ih, ih (0 * 2 + b)]
  simp only [Nat.add_mul, Nat.mul_assoc, Nat.zero_mul, Nat.zero_add]
  rw [Nat.mul_comm 2 (2 ^ l.length)]; omega
theorem numB_cons (b : Nat) (l : List Nat) : numB (b :: l) = b * 2 ^ l.length + numB l := by
 have := foldl_num l b
 simp only [numB, List.foldl_cons, Nat.zero_mul, Nat.zero_add] at this ⊢; exact this
theorem numB_snoc (b : Nat) (l : List Nat) : numB (l ++ [b]) = numB l * 2 + b := by simp [numB]
theorem numB_lt {l : List Nat} (h : Bit l) : numB l < 2 ^ l.length := by
 induction l with
 | nil => simp [numB]
 | cons b l ih =>
  rw [numB_cons, List.length_cons, Nat.pow_succ]
  have h1 := h b (by simp)
  have h2 := ih (fun c hc => h c (by simp [hc]))
  have : b * 2 ^ l.length ≤ 1 * 2 ^ l.length := Nat.mul_le_mul_right _ h1
  omega
theorem numB_wordB (v n : Nat) : numB (wordB v n) = v % 2 ^ n := by
 induction n with
 | zero => simp [wordB, numB, Nat.mod_one]
 | succ n ih =>
  rw [wordB, numB_cons, ih, length_wordB, Nat.pow_succ, Nat.mod_mul]; rw [Nat.mul_comm]; omega
theorem numV_hi (f : Nat → Nat) (n : Nat) : numV false f n = numB ((List.range n).map f) := by
 induction n with
 | zero => rfl
 | succ n ih => rw [List.range_succ, List.map_append, List.map_cons, List.map_nil, numB_snoc, ← ih]; rfl
theorem numV_lo (f : Nat → Nat) (n : Nat) : numV true f n = numB ((List.range n).map f).reverse := by
 induction n with
 | zero => rfl
 | succ n ih =>
  rw [List.range_succ, List.map_append, List.map_cons, List.map_nil, List.reverse_append, List.reverse_cons, List.reverse_nil, List.nil_append, List.cons_append, List.nil_append, numB_cons, ← ih]
  simp [numV]; omega
theorem numV_L (low : Bool) (f : Nat → Nat) (n : Nat) : numV low f n = numB (cond low ((List.range n).map f).reverse ((List.range n).map f)) := by
 cases low; exact numV_hi f n; exact numV_lo f n
theorem ba_get {l : List UInt8} {k : Nat} {c : UInt8} (h : l[k]? = some c) (hk : k < (ByteArray.mk l.toArray).size) : (ByteArray.mk l.toArray)[k]'hk = c := by
 have hk' : k < l.length := hk
 rw [List.getElem?_eq_getElem hk'] at h
 simp only [Option.some.injEq] at h
 rw [← h]; rfl
theorem int_eq {k : IntKind} {x y : Int} (h : x = y) : Value.int k x = Value.int k y := by rw [h]
end Go.Mz
namespace Go.Mz
open Go.RowKit
set_option linter.unusedVariables false
set_option linter.unusedSimpArgs false
theorem St.own_of_row {w0 w w' : World} {F : SProp} {e : TypeId} {size : Nat} {v : Value} {n : Nat} {xs : List Value} (h : St w0 w F) (hg : w.grownBy w' none) (hr : w'.ownsRow w.heap.size e size v n xs) : St w0 w' (own e size v n xs * F) := by
 have hb : ∀ k, k < w.heap.size → w'.heap[k]? = w.heap[k]? := fun k hk => hg.block k hk (by simp)
 obtain ⟨hl, ⟨rfl, rfl⟩ | ⟨g, cap, cur, rfl, h1, h2, h3, h4, h5, h6⟩⟩ := hr
 ·have hx : xs = [] := List.eq_nil_of_length_eq_zero (by simpa using hl)
  subst hx
  exact (h.ext hg.os hg.tape hg.output hg.size hb).own_nil e size
 ·exact (h.new hg.os hg.tape hg.output hg.size h1 h2 hb).own_blk h3 h4 h5 h6
theorem wpList_make_sep {P : Program} {w0 w : World} {F : SProp} {t e : TypeId} {size bytes : Nat} {z : Value} (T : ElemT P t e size bytes z)
  {ops : Array Oper} {rest : List Oper} {o : Oper} {a : Act} {Q : Exit → Act → World → Prop} (hgd : o.guard = none) (l c : Operand)
  (ho : o.op = .makeSlice t l c) {kl kc : IntKind} {L C : Int} (n : Nat) (hl : a.eval l = .int kl L) (hc : a.eval c = .int kc C) (hL : L = n) (hC : C = n)
  (h : St w0 w F) (h63 : n ≤ maxLen) (hbytes : bytes * n ≤ 281474976710656)
  (hK : ∀ v' w', St w0 w' (own e size v' n (madeCells z.cells (n * size)).toList * F) → wpList P ops Q rest (a.put o.dst v') w') : wpList P ops Q (o :: rest) a w := by
 obtain ⟨ht, ⟨i, hi, hz, hs, hby⟩, hzs, hsz⟩ := T
 exact wpList_make_full w hgd l c t ho w.heap.size e i z size ht hi hz hs kl kc L C n hl hc hL hC (by rw [hby]; exact hbytes) h63 (Nat.le_refl _)
  fun w' hr hg => hK _ _ (h.own_of_row hg hr)
theorem own_at {w0 w : World} {e : TypeId} {size n cap : Nat} {a : Option Addr} {xs : List Value} {F : SProp} (h : St w0 w (own e size (.slice a n cap) n xs * F)) (hn : 0 < n) : ∃ g, a = some ⟨g, 0, none⟩ := by
 obtain ⟨hl, ⟨a1, h0, _⟩ | ⟨g', cap', cur, a1, _⟩⟩ := h.own_split
 ·omega
 ·cases a1; exact ⟨g', rfl⟩
end Go.Mz
namespace Go.Mz
open Go.RowKit
set_option linter.unusedVariables false
set_option linter.unusedSimpArgs false
def prodL : List SProp → SProp
 | [] => emp
 | A :: l => A * prodL l
def StL (w0 w : World) (l : List SProp) : Prop := St w0 w (prodL l)
theorem prodL_at {l : List SProp} {i : Nat} {A : SProp} (h : l[i]? = some A) : ∃ F, prodL l = A * F ∧ ∀ B, prodL (l.set i B) = B * F := by
 induction l generalizing i with
 | nil => simp at h
 | cons C l ih =>
  cases i with
  | zero =>
   simp at h
   subst h
   exact ⟨prodL l, rfl, fun B => rfl⟩
  | succ i =>
   simp at h
   obtain ⟨F, h1, h2⟩ := ih h
   exact ⟨C * F, by rw [prodL, h1, star_left_comm], fun B => by rw [List.set_cons_succ, prodL, h2, star_left_comm]⟩
theorem prodL_snoc (l : List SProp) (A : SProp) : prodL (l ++ [A]) = A * prodL l := by
 induction l with
 | nil => simp [prodL]
 | cons C l ih => rw [List.cons_append, prodL, ih, prodL, star_left_comm]
theorem StL.at_ {w0 w : World} {l : List SProp} {i : Nat} {A : SProp} (h : StL w0 w l) (hi : l[i]? = some A) : ∃ F, St w0 w (A * F) := by
 obtain ⟨F, h1, _⟩ := prodL_at hi
 exact ⟨F, St.perm h h1⟩
theorem StL.upd {w0 w w' : World} {l : List SProp} {i : Nat} {A B : SProp} (h : StL w0 w l) (hi : l[i]? = some A) (f : ∀ F, St w0 w (A * F) → St w0 w' (B * F)) : StL w0 w' (l.set i B) := by
 obtain ⟨F, h1, h2⟩ := prodL_at hi
 exact St.perm (f F (St.perm h h1)) (h2 B).symm
theorem StL.alloc {w0 w : World} {l : List SProp} (h : StL w0 w l) {b : Nat} (hb : b = w.heap.size) (o : Obj) : StL w0 (w.alloc o) (l ++ [blk b o]) := by
 subst hb
 exact St.perm (St.alloc h o) (prodL_snoc _ _).symm
theorem StL.drew {w0 w : World} {l : List SProp} (h : StL w0 w l) : StL w0 w.drew l := St.drew h
theorem StL.cell {w0 w : World} {l : List SProp} {i b : Nat} {c : Array Value} {e : TypeId} {fr : Nat × Nat} (h : StL w0 w l) (hi : l[i]? = some (blk b (.cells c e fr))) (j : Nat) {v : Value} (hv : c[j]? = some v) : w.cell? ⟨b, j, none⟩ = some v := by
 obtain ⟨F, hF⟩ := h.at_ hi
 exact hF.cell j hv
theorem StL.free {w0 w : World} {l : List SProp} {i b : Nat} {c : Array Value} {e : TypeId} (h : StL w0 w l) (hi : l[i]? = some (blk b (.cells c e (0, 0)))) (j : Nat) : w.frozen? ⟨b, j, none⟩ = false := by
 obtain ⟨F, hF⟩ := h.at_ hi
 exact hF.free j
theorem StL.set {w0 w : World} {l : List SProp} {i b : Nat} {c : Array Value} {e : TypeId} {fr : Nat × Nat} (h : StL w0 w l) (hi : l[i]? = some (blk b (.cells c e fr))) (j : Nat) (v : Value) :
  StL w0 (w.setCell ⟨b, j, none⟩ v) (l.set i (blk b (.cells (c.setIfInBounds j v) e fr))) :=
 h.upd hi fun F hF => hF.set j v
theorem StL.one {w0 w : World} {l : List SProp} {i b : Nat} {u : Value} {e : TypeId} (h : StL w0 w l) (hi : l[i]? = some (blk b (.cells #[u] e))) : Reads w 1 (.slice (some ⟨b, 0, none⟩) 1 1) 1 [u] := by
 refine ⟨rfl, .inr ⟨_, 1, rfl, Nat.le_refl _, by decide, fun j v hv => ?_⟩⟩
 cases j with
 | zero => cases hv; exact h.cell hi 0 rfl
 | succ j => simp at hv
theorem StL.reads {w0 w : World} {l : List SProp} {i : Nat} {e : TypeId} {size : Nat} {v : Value} {n : Nat} {xs : List Value} (h : StL w0 w l) (hi : l[i]? = some (own e size v n xs)) : Reads w size v n xs := by
 obtain ⟨F, hF⟩ := h.at_ hi
 exact hF.reads
theorem run_append_keeps {P : Program} {w0 w : World} {F : SProp} {t e : TypeId} {size bytes : Nat} {z : Value} (T : ElemT P t e size bytes z) (ty : TypeId) {v : Value} {n : Nat} {xs : List Value}
  (h : St w0 w (own e size v n xs * F)) {x : Value} {m : Nat} {news : List Value} (hx : Reads w size x m news) (h1 : ∀ u ∈ news, u.oneCell' = true)
  (h63 : n + m ≤ maxLen) (hbytes : (n + m) * bytes ≤ 140737488355328) {v' : Value} {w' : World} (hr : (Builtin.append_ #[t, t] ty #[v, x]).run P w = .ok v' w') : Reads w' size v n xs := by
 obtain ⟨ht, ⟨i, hi, hz, rfl, rfl⟩, hzs, hsz⟩ := T
 have hv := h.reads
 obtain ⟨hxl, hx⟩ := hx
 rcases hx with ⟨rfl, rfl⟩ | ⟨ax, cap', rfl, hc1, hc2, hnews⟩
 ·rw [run_append_owned_none w 0 t ty e i i.size ht hi v n xs h.own_row] at hr
  cases hr
  exact hv
 have hsmall : n + m ≤ 9223372036854775807 := by simp only [maxLen] at h63; omega
 obtain ⟨hl, a⟩ := h.own_split
 rcases a with ⟨rfl, rfl, hF⟩ | ⟨g, cap, cur, rfl, hnc, hcm, hcs, htake, hB⟩
 ·exact ⟨hl, .inl ⟨rfl, rfl⟩⟩
 ·by_cases hroom : n + m ≤ cap
  ·have hfit : n * i.size + news.length ≤ cur.size := by rw [hxl, hcs, ← Nat.add_mul]; exact Nat.mul_le_mul_right _ hroom
   rw [run_append_room (P := P) w t ty e i ht hi g n cap cur hB.at_ ax m cap' news hxl hnews h1 hroom hfit] at hr
   cases hr
   refine ⟨hl, .inr ⟨_, cap, rfl, hnc, hcm, fun j u hu => ?_⟩⟩
   have hj : j < n * i.size := by rw [← hl]; exact (List.getElem?_eq_some_iff.1 hu).1
   rw [Addr.add_lit, Nat.zero_add, cell_of_row _ g j _ e (0, 0) (setRow_heap w g cur _ e _ hB.at_)]
   rw [← htake] at hu
   simp only [List.getElem?_toArray]
   rw [List.append_assoc, List.getElem?_append_left (by rw [List.length_take, Array.length_toList]; omega)]
   exact hu
  ·have holds : ∀ j u, xs[j]? = some u → w.cell? ((⟨g, 0, none⟩ : Addr).add j) = some u := by
    intro j u hu
    rw [Addr.add_lit, Nat.zero_add, hB.cells]
    subst htake
    rw [List.getElem?_take] at hu
    split at hu
    ·simpa using hu
    ·cases hu
   rw [run_append_grow (P := P) w t ty e i z ht hi hz ⟨g, 0, none⟩ n cap xs hl holds ax m cap' news hxl hnews (by omega) (by omega) (growslice_fits (by omega) hbytes)] at hr
   cases hr
   refine ⟨hl, .inr ⟨_, cap, rfl, hnc, hcm, fun j u hu => ?_⟩⟩
   rw [World.cell?_alloc_lt _ _ _ (by rw [Addr.add_lit]; exact hB.lt), World.cell?_drew]
   exact holds j u hu
theorem step_append_L {P : Program} {w0 w : World} {l : List SProp} {t e : TypeId} {size bytes : Nat} {z : Value} (T : ElemT P t e size bytes z)
  {ops : Array Oper} {o : Oper} {a : Act} {K : Act → World → Prop} {Q : Exit → Act → World → Prop} {E : Prop} (hgd : o.guard = none) (s y : Operand)
  (ho : o.op = .call { callee := .builtin .append, args := #[s, y], argTypes := #[t, t] }) {v : Value} {n : Nat} {xs : List Value} (hs : a.eval s = v)
  (h : StL w0 w l) (i : Nat) (hi : l[i]? = some (own e size v n xs)) {x : Value} {m : Nat} {news : List Value} (hy : a.eval y = x) (hx : Reads w size x m news) (h1 : ∀ u ∈ news, u.oneCell' = true)
  (h63 : n + m ≤ maxLen) (hbytes : (n + m) * bytes ≤ 140737488355328)
  (hK : ∀ v' w', StL w0 w' (l.set i (own e size v' (n + m) (xs ++ news))) → Reads w' size v n xs → K (a.put o.dst v') w') : if Region.wanted o (yielded ops a.tmps) = true then Oper.wp P o a w K Q else E := by
 have hw : Region.wanted o (yielded ops a.tmps) = true := by simp [Region.wanted, hgd]
 rw [if_pos hw]
 obtain ⟨F, f1, f2⟩ := prodL_at hi
 obtain ⟨v', w', hr, h2, _⟩ := run_append_sep T o.type (St.perm h f1) hx h1 h63 hbytes
 unfold Oper.wp execOp
 simp only [ho, resolve, invoke, builtin, Sem.run_bind, Sem.run_pure, Result.andThen_ok, List.map_toArray, List.map_cons, List.map_nil, hs, hy, hr]
 exact hK v' w' (St.perm h2 (f2 _).symm) (run_append_keeps T o.type (St.perm h f1) hx h1 h63 hbytes hr)
end Go.Mz
