/-
  Assertions on memory by separate pieces, for the walks of this claim: a piece of heap, two pieces side by side, and what an operation on one piece leaves of the rest. Program-independent.
-/
import Derived.WalkKit
import Derived.WalkSpells
import Derived.Deep.QuietTactic
import Derived.BigQuiet
import Derived.Lib.Hide
namespace Go.Mz
open Go.RowKit
set_option linter.unusedVariables false
set_option linter.unusedSimpArgs false

/-- Here the walk stands still: 'go_wp2_with (at_builtin; apply stop)'; on again: 'refine on ?_'. -/
def Stopped (p : Prop) : Prop := p
theorem stop {p : Prop} (h : Stopped p) : p := h
theorem on {p : Prop} (h : p) : Stopped p := h

theorem stop_conv {P : Program} {ops : Array Oper} {rest : List Oper} {o : Oper} {a : Act} {w : World} {Q : Exit → Act → World → Prop} (src dst : TypeId) {x : Operand} (ho : o.op = .convert src dst x)
    (h : Stopped (wpList P ops Q (o :: rest) a w)) : wpList P ops Q (o :: rest) a w := h

/-- A piece of heap. -/
abbrev Hl := Nat → Option Obj
def Hl.le (h : Hl) (w : World) : Prop := ∀ b o, h b = some o → w.heap[b]? = some o
def SProp := Hl → Prop
def star (A B : SProp) : SProp := fun h => ∃ h1 h2 : Hl, (∀ b, h1 b = none ∨ h2 b = none) ∧ (∀ b, h b = (h1 b).or (h2 b)) ∧ A h1 ∧ B h2
instance : Mul SProp := ⟨star⟩
def emp : SProp := fun h => ∀ b, h b = none
def blk (b : Nat) (o : Obj) : SProp := fun h => h = fun k => if k = b then some o else none
def lift (p : Prop) : SProp := fun h => p ∧ emp h
def sEx {α : Type} (A : α → SProp) : SProp := fun h => ∃ x, A x h
def old (w0 : World) : SProp := fun h => h = fun k => w0.heap[k]?

theorem star_comm (A B : SProp) : A * B = B * A := by
  have key : ∀ A B : SProp, ∀ h, (A * B) h → (B * A) h := by
    rintro A B h ⟨h1, h2, d, u, a, b⟩
    refine ⟨h2, h1, fun b => (d b).symm, fun b => ?_, b, a⟩
    rw [u b]
    rcases d b with e | e <;> simp [e]
  funext h
  exact propext ⟨key A B h, key B A h⟩

theorem star_assoc (A B C : SProp) : A * B * C = A * (B * C) := by
  funext h
  refine propext ⟨?_, ?_⟩
  · rintro ⟨h12, h3, d, u, ⟨h1, h2, d', u', a, b⟩, c⟩
    refine ⟨h1, fun k => (h2 k).or (h3 k), fun k => ?_, fun k => ?_, a, ⟨h2, h3, fun k => ?_, fun k => rfl, b, c⟩⟩
    · rcases d' k with e | e
      · exact .inl e
      · rcases d k with e' | e'
        · rw [u' k] at e'; simp at e'; exact .inl e'.1
        · exact .inr (by simp [e, e'])
    · rw [u k, u' k]; cases e1 : h1 k <;> cases e2 : h2 k <;> cases e3 : h3 k <;> simp [e1, e2, e3]
    · rcases d k with e' | e'
      · rw [u' k] at e'; simp at e'; exact .inl e'.2
      · exact .inr e'
  · rintro ⟨h1, h23, d, u, a, ⟨h2, h3, d', u', b, c⟩⟩
    refine ⟨fun k => (h1 k).or (h2 k), h3, fun k => ?_, fun k => ?_, ⟨h1, h2, fun k => ?_, fun k => rfl, a, b⟩, c⟩
    · rcases d' k with e | e
      · rcases d k with e' | e'
        · exact .inl (by simp [e, e'])
        · rw [u' k] at e'; simp at e'; exact .inr e'.2
      · exact .inr e
    · rw [u k, u' k]; cases e1 : h1 k <;> cases e2 : h2 k <;> cases e3 : h3 k <;> simp [e1, e2, e3]
    · rcases d k with e' | e'
      · exact .inl e'
      · rw [u' k] at e'; simp at e'; exact .inr e'.1

theorem star_left_comm (A B C : SProp) : A * (B * C) = B * (A * C) := by
  rw [← star_assoc, star_comm A B, star_assoc]

instance : Std.Associative (α := SProp) (· * ·) := ⟨star_assoc⟩
instance : Std.Commutative (α := SProp) (· * ·) := ⟨star_comm⟩

theorem emp_star (A : SProp) : emp * A = A := by
  funext h
  refine propext ⟨?_, fun a => ⟨fun _ => none, h, fun _ => .inl rfl, fun _ => by simp, fun _ => rfl, a⟩⟩
  rintro ⟨h1, h2, d, u, e, a⟩
  have : h = h2 := by funext b; rw [u b, e b]; simp
  rw [this]; exact a

/-- The world w goes on from w0; its heap bears A (and whatever else). -/
structure St (w0 w : World) (A : SProp) : Prop where
  os : w.os = w0.os
  tape : w.tape = w0.tape
  output : w.output = w0.output
  size : w0.heap.size ≤ w.heap.size
  sat : ∃ h : Hl, A h ∧ h.le w

theorem St.init (w : World) : St w w (old w) := ⟨rfl, rfl, rfl, Nat.le_refl _, _, rfl, fun _ _ h => h⟩
theorem St.perm {w0 w : World} {A B : SProp} (h : St w0 w A) (e : A = B) : St w0 w B := e ▸ h
theorem St.imp {w0 w : World} {A B : SProp} (h : St w0 w A) (f : ∀ x, A x → B x) : St w0 w B :=
  let ⟨x, a, l⟩ := h.sat; ⟨h.os, h.tape, h.output, h.size, x, f x a, l⟩
theorem star_mono {A A' B B' : SProp} (f : ∀ x, A x → A' x) (g : ∀ x, B x → B' x) : ∀ x, (A * B) x → (A' * B') x :=
  fun _ ⟨h1, h2, d, u, a, b⟩ => ⟨h1, h2, d, u, f _ a, g _ b⟩
theorem St.imp_l {w0 w : World} {A A' F : SProp} (h : St w0 w (A * F)) (f : ∀ x, A x → A' x) : St w0 w (A' * F) :=
  h.imp (star_mono f fun _ b => b)
theorem St.left {w0 w : World} {A B : SProp} (h : St w0 w (A * B)) : St w0 w A := by
  obtain ⟨x, ⟨h1, h2, d, u, a, b⟩, l⟩ := h.sat
  refine ⟨h.os, h.tape, h.output, h.size, h1, a, fun k o e => l k o ?_⟩
  rw [u k, e]; rfl
theorem St.right {w0 w : World} {A B : SProp} (h : St w0 w (A * B)) : St w0 w B := (h.perm (star_comm A B)).left
theorem St.ex {w0 w : World} {α : Type} {A : α → SProp} (h : St w0 w (sEx A)) : ∃ x, St w0 w (A x) :=
  let ⟨y, ⟨x, a⟩, l⟩ := h.sat; ⟨x, h.os, h.tape, h.output, h.size, y, a, l⟩
theorem St.ex_l {w0 w : World} {α : Type} {A : α → SProp} {F : SProp} (h : St w0 w (sEx A * F)) : ∃ x, St w0 w (A x * F) := by
  obtain ⟨y, ⟨h1, h2, d, u, ⟨x, a⟩, b⟩, l⟩ := h.sat
  exact ⟨x, h.os, h.tape, h.output, h.size, y, ⟨h1, h2, d, u, a, b⟩, l⟩
theorem St.mk_ex_l {w0 w : World} {α : Type} {A : α → SProp} {F : SProp} (x : α) (h : St w0 w (A x * F)) : St w0 w (sEx A * F) :=
  h.imp_l fun _ a => ⟨x, a⟩
theorem St.pure_l {w0 w : World} {p : Prop} {F : SProp} (h : St w0 w (lift p * F)) : p ∧ St w0 w F := by
  refine ⟨?_, h.right⟩
  obtain ⟨y, ⟨h1, h2, d, u, ⟨hp, _⟩, b⟩, l⟩ := h.sat
  exact hp
theorem St.mk_pure_l {w0 w : World} {p : Prop} {F : SProp} (hp : p) (h : St w0 w F) : St w0 w (lift p * F) := by
  have e : St w0 w (emp * F) := h.perm (emp_star F).symm
  exact e.imp_l fun _ a => ⟨hp, a⟩

theorem St.drew {w0 w : World} {A : SProp} (h : St w0 w A) : St w0 w.drew A := ⟨h.os, h.tape, h.output, h.size, h.sat⟩
theorem St.drewN {w0 w : World} {A : SProp} (h : St w0 w A) (n : Nat) : St w0 (w.drewN n) A := ⟨h.os, h.tape, h.output, h.size, h.sat⟩

theorem St.at_ {w0 w : World} {b : Nat} {o : Obj} {F : SProp} (h : St w0 w (blk b o * F)) : w.heap[b]? = some o := by
  obtain ⟨y, a, l⟩ := h.left.sat
  obtain rfl : y = _ := a
  exact l b o (by simp)

theorem St.lt {w0 w : World} {b : Nat} {o : Obj} {F : SProp} (h : St w0 w (blk b o * F)) : b < w.heap.size := by
  have := h.at_
  rcases Nat.lt_or_ge b w.heap.size with g | g
  · exact g
  · simp [Array.getElem?_eq_none g] at this

theorem St.cells {w0 w : World} {b : Nat} {c : Array Value} {e : TypeId} {fr : Nat × Nat} {F : SProp} (h : St w0 w (blk b (.cells c e fr) * F)) (i : Nat) : w.cell? ⟨b, i, none⟩ = c[i]? := by
  simp [World.cell?, h.at_]

theorem St.cell {w0 w : World} {b : Nat} {c : Array Value} {e : TypeId} {fr : Nat × Nat} {F : SProp} (h : St w0 w (blk b (.cells c e fr) * F)) (i : Nat) {v : Value} (hv : c[i]? = some v) : w.cell? ⟨b, i, none⟩ = some v := by
  rw [h.cells, hv]

theorem St.free {w0 w : World} {b : Nat} {c : Array Value} {e : TypeId} {F : SProp} (h : St w0 w (blk b (.cells c e (0, 0)) * F)) (i : Nat) : w.frozen? ⟨b, i, none⟩ = false := by
  simp [World.frozen?, h.at_]

theorem St.ne {w0 w : World} {b b' : Nat} {o o' : Obj} {F : SProp} (h : St w0 w (blk b o * (blk b' o' * F))) : b ≠ b' := by
  obtain ⟨y, ⟨h1, h2, d, u, a, ⟨h3, h4, d', u', a', _⟩⟩, l⟩ := h.sat
  rintro rfl
  obtain rfl : h1 = _ := a
  obtain rfl : h3 = _ := a'
  rcases d b with e | e
  · simp at e
  · rw [u' b] at e; simp at e

/-- A heap that differs in block b alone. -/
theorem St.upd {w0 w w' : World} {b : Nat} {o o' : Obj} {F : SProp} (h : St w0 w (blk b o * F)) (h1 : w'.os = w.os) (h2 : w'.tape = w.tape) (h3 : w'.output = w.output)
    (h4 : w.heap.size ≤ w'.heap.size) (h5 : w'.heap[b]? = some o') (h6 : ∀ k, k < w.heap.size → k ≠ b → w'.heap[k]? = w.heap[k]?) : St w0 w' (blk b o' * F) := by
  obtain ⟨y, ⟨x1, x2, d, u, a, f⟩, l⟩ := h.sat
  obtain rfl : x1 = _ := a
  refine ⟨h1.trans h.os, h2.trans h.tape, h3.trans h.output, Nat.le_trans h.size h4, fun k => if k = b then some o' else x2 k, ⟨fun k => if k = b then some o' else none, x2, fun k => ?_, fun k => ?_, rfl, f⟩, fun k ob e => ?_⟩
  · have := d k
    by_cases hk : k = b <;> simp_all
  · by_cases hk : k = b <;> simp [hk]
  · by_cases hk : k = b
    · simp [hk] at e; rw [hk, h5, e]
    · simp [hk] at e
      have hl := l k ob (by rw [u k]; simp [hk, e])
      have hlt : k < w.heap.size := by
        rcases Nat.lt_or_ge k w.heap.size with g | g
        · exact g
        · simp [Array.getElem?_eq_none g] at hl
      rw [h6 k hlt hk, hl]

theorem St.set {w0 w : World} {b : Nat} {c : Array Value} {e : TypeId} {fr : Nat × Nat} {F : SProp} (h : St w0 w (blk b (.cells c e fr) * F)) (i : Nat) (v : Value) :
    St w0 (w.setCell ⟨b, i, none⟩ v) (blk b (.cells (c.setIfInBounds i v) e fr) * F) := by
  refine h.upd rfl rfl rfl (by simp) ?_ (fun k _ hk => Below.heap_setCell _ _ _ _ hk)
  simp [World.setCell, Array.getElem?_modify, h.at_]

/-- More blocks, the elder ones as they were. -/
theorem St.ext {w0 w w' : World} {F : SProp} (h : St w0 w F) (h1 : w'.os = w.os) (h2 : w'.tape = w.tape) (h3 : w'.output = w.output)
    (h4 : w.heap.size ≤ w'.heap.size) (h6 : ∀ k, k < w.heap.size → w'.heap[k]? = w.heap[k]?) : St w0 w' F := by
  obtain ⟨y, a, l⟩ := h.sat
  refine ⟨h1.trans h.os, h2.trans h.tape, h3.trans h.output, Nat.le_trans h.size h4, y, a, fun k ob e => ?_⟩
  have hl := l k ob e
  have hlt : k < w.heap.size := by
    rcases Nat.lt_or_ge k w.heap.size with g | g
    · exact g
    · simp [Array.getElem?_eq_none g] at hl
  rw [h6 k hlt, hl]

/-- One new block, at number b, the elder ones as they were. -/
theorem St.new {w0 w w' : World} {F : SProp} {b : Nat} {o : Obj} (h : St w0 w F) (h1 : w'.os = w.os) (h2 : w'.tape = w.tape) (h3 : w'.output = w.output)
    (h4 : w.heap.size ≤ w'.heap.size) (hb : w.heap.size ≤ b) (h5 : w'.heap[b]? = some o) (h6 : ∀ k, k < w.heap.size → w'.heap[k]? = w.heap[k]?) : St w0 w' (blk b o * F) := by
  obtain ⟨y, a, l⟩ := h.sat
  have hnone : y b = none := by
    cases hy : y b with
    | none => rfl
    | some ob =>
      have := l b ob hy
      simp [Array.getElem?_eq_none hb] at this
  refine ⟨h1.trans h.os, h2.trans h.tape, h3.trans h.output, Nat.le_trans h.size h4, fun k => if k = b then some o else y k, ⟨fun k => if k = b then some o else none, y, fun k => ?_, fun k => ?_, rfl, a⟩, fun k ob e => ?_⟩
  · by_cases hk : k = b <;> simp [hk, hnone]
  · by_cases hk : k = b <;> simp [hk]
  · by_cases hk : k = b
    · simp [hk] at e; rw [hk, h5, e]
    · simp [hk] at e
      exact (h.ext h1 h2 h3 h4 h6).sat.elim fun _ _ => by
        have hl := l k ob e
        have hlt : k < w.heap.size := by
          rcases Nat.lt_or_ge k w.heap.size with g | g
          · exact g
          · simp [Array.getElem?_eq_none g] at hl
        rw [h6 k hlt, hl]

theorem St.alloc {w0 w : World} {F : SProp} (h : St w0 w F) (o : Obj) : St w0 (w.alloc o) (blk w.heap.size o * F) :=
  h.new rfl rfl rfl (by simp) (Nat.le_refl _) (heap_alloc_new w o) (fun k hk => Below.heap_alloc _ _ _ hk)

/-- In company: a block at whose side lies any other. -/
theorem St.drop_alloc {w0 w : World} {F : SProp} (h : St w0 w F) (o : Obj) : St w0 (w.alloc o) F := (h.alloc o).right

theorem St.old_at {w0 w : World} {F : SProp} (h : St w0 w (old w0 * F)) {k : Nat} (hk : k < w0.heap.size) : w.heap[k]? = w0.heap[k]? := by
  obtain ⟨y, a, l⟩ := h.left.sat
  obtain rfl : y = _ := a
  have e : w0.heap[k]? = some w0.heap[k] := by simp [hk]
  rw [e]; exact l k _ e

theorem St.below {w0 w : World} {F : SProp} (h : St w0 w (old w0 * F)) : Below w0.heap.size w0 w :=
  ⟨h.os, h.tape, h.output, h.size, fun k hk => h.old_at hk⟩

/-- What holds of every world that bears F. -/
def Stb (w0 : World) (F : SProp) (p : World → Prop) : Prop := ∀ w, St w0 w F → p w
theorem Stb.more {w0 : World} {F : SProp} {p : World → Prop} (h : Stb w0 F p) (A : SProp) : Stb w0 (A * F) p := fun w s => h w s.right


/-! ### Slices: what is read, what is owned -/

/-- The slice v reads as n elements, of size cells each: xs. -/
def Reads (w : World) (size : Nat) (v : Value) (n : Nat) (xs : List Value) : Prop :=
  xs.length = n * size ∧ ((v = .slice none 0 0 ∧ n = 0) ∨ ∃ x cap, v = .slice (some x) n cap ∧ n ≤ cap ∧ cap ≤ maxLen ∧ ∀ j u, xs[j]? = some u → w.cell? (x.add j) = some u)

/-- The slice v is nil, or the head of a block of its own. -/
def own (e : TypeId) (size : Nat) (v : Value) (n : Nat) (xs : List Value) : SProp := fun h =>
  xs.length = n * size ∧ ((v = .slice none 0 0 ∧ n = 0 ∧ emp h) ∨
    ∃ g cap cur, v = .slice (some ⟨g, 0, none⟩) n cap ∧ n ≤ cap ∧ cap ≤ maxLen ∧ cur.size = cap * size ∧ cur.toList.take (n * size) = xs ∧ blk g (.cells cur e (0, 0)) h)

theorem St.own_split {w0 w : World} {e : TypeId} {size : Nat} {v : Value} {n : Nat} {xs : List Value} {F : SProp} (h : St w0 w (own e size v n xs * F)) :
    xs.length = n * size ∧ ((v = .slice none 0 0 ∧ n = 0 ∧ St w0 w F) ∨
      ∃ g cap cur, v = .slice (some ⟨g, 0, none⟩) n cap ∧ n ≤ cap ∧ cap ≤ maxLen ∧ cur.size = cap * size ∧ cur.toList.take (n * size) = xs ∧ St w0 w (blk g (.cells cur e (0, 0)) * F)) := by
  have hr := h.right
  obtain ⟨y, ⟨h1, h2, d, u, ⟨hl, a⟩, f⟩, l⟩ := h.sat
  refine ⟨hl, ?_⟩
  rcases a with ⟨a1, a2, _⟩ | ⟨g, cap, cur, a1, a2, a3, a4, a5, a6⟩
  · exact .inl ⟨a1, a2, hr⟩
  · exact .inr ⟨g, cap, cur, a1, a2, a3, a4, a5, h.os, h.tape, h.output, h.size, y, ⟨h1, h2, d, u, a6, f⟩, l⟩

theorem St.own_blk {w0 w : World} {e : TypeId} {size : Nat} {n cap g : Nat} {xs : List Value} {cur : Array Value} {F : SProp} (h : St w0 w (blk g (.cells cur e (0, 0)) * F))
    (hn : n ≤ cap) (hc : cap ≤ maxLen) (hs : cur.size = cap * size) (ht : cur.toList.take (n * size) = xs) : St w0 w (own e size (.slice (some ⟨g, 0, none⟩) n cap) n xs * F) :=
  h.imp_l fun x b => ⟨by rw [← ht, List.length_take, Nat.min_eq_left]; rw [Array.length_toList, hs]; exact Nat.mul_le_mul_right _ hn, .inr ⟨g, cap, cur, rfl, hn, hc, hs, ht, b⟩⟩

theorem St.own_nil {w0 w : World} {F : SProp} (e : TypeId) (size : Nat) (h : St w0 w F) : St w0 w (own e size (.slice none 0 0) 0 [] * F) := by
  have e' : St w0 w (emp * F) := h.perm (emp_star F).symm
  exact e'.imp_l fun _ a => ⟨by simp, .inl ⟨rfl, rfl, a⟩⟩

theorem St.own_ne {w0 w : World} {e : TypeId} {size g cap n b : Nat} {o : Obj} {xs : List Value} {F : SProp} (h : St w0 w (blk b o * (own e size (.slice (some ⟨g, 0, none⟩) n cap) n xs * F))) : ¬ g = b := by
  obtain ⟨y, ⟨h1, h2, d, u, a, ⟨h3, h4, d', u', ⟨_, a'⟩, _⟩⟩, l⟩ := h.sat
  rintro rfl
  obtain rfl : h1 = _ := a
  rcases a' with ⟨e1, _⟩ | ⟨g', cap', cur, e1, _, _, _, _, e2⟩
  · cases e1
  · cases e1
    obtain rfl : h3 = _ := e2
    rcases d g with e | e
    · simp at e
    · rw [u' g] at e; simp at e

theorem St.own_row {w0 w : World} {e : TypeId} {size : Nat} {v : Value} {n : Nat} {xs : List Value} {F : SProp} (h : St w0 w (own e size v n xs * F)) : w.ownsRow 0 e size v n xs := by
  obtain ⟨hl, a⟩ := h.own_split
  refine ⟨hl, ?_⟩
  rcases a with ⟨a1, a2, _⟩ | ⟨g, cap, cur, a1, a2, a3, a4, a5, a6⟩
  · exact .inl ⟨a1, a2⟩
  · exact .inr ⟨g, cap, cur, a1, Nat.zero_le _, a6.at_, a2, a3, a4, a5⟩

theorem St.reads {w0 w : World} {e : TypeId} {size : Nat} {v : Value} {n : Nat} {xs : List Value} {F : SProp} (h : St w0 w (own e size v n xs * F)) : Reads w size v n xs := by
  obtain ⟨hl, a⟩ := h.own_split
  refine ⟨hl, ?_⟩
  rcases a with ⟨a1, a2, _⟩ | ⟨g, cap, cur, a1, a2, a3, a4, a5, a6⟩
  · exact .inl ⟨a1, a2⟩
  · refine .inr ⟨_, cap, a1, a2, a3, fun j u hu => ?_⟩
    rw [Addr.add_lit, Nat.zero_add, a6.cells]
    subst a5
    rw [List.getElem?_take] at hu
    split at hu
    · simpa using hu
    · cases hu

theorem Reads.cell {w : World} {v : Value} {n : Nat} {xs : List Value} (h : Reads w 1 v n xs) {j : Nat} (hj : j < n) : ∃ b off cap, v = .slice (some ⟨b, off, none⟩) n cap ∧ w.cell? ⟨b, off + j, none⟩ = xs[j]? := by
  obtain ⟨hl, ⟨_, rfl⟩ | ⟨⟨b, off, spot⟩, cap, a1, a2, a3, a4⟩⟩ := h
  · omega
  · have hx : xs[j]? = some xs[j] := by simp [show j < xs.length by omega]
    have h0 := a4 0 xs[0] (by simp [show 0 < xs.length by omega])
    have hspot : spot = none := by simpa [Addr.add] using World.cell?_spot h0
    subst hspot
    have hc := a4 j _ hx
    rw [Addr.add_lit] at hc
    exact ⟨b, off, cap, a1, by rw [hc, hx]⟩

theorem Reads.len_le {w : World} {v : Value} {n : Nat} {xs : List Value} {size : Nat} (h : Reads w size v n xs) : n ≤ maxLen := by
  obtain ⟨hl, ⟨rfl, rfl⟩ | ⟨x, cap, a1, a2, a3, _⟩⟩ := h
  · exact Nat.zero_le _
  · omega

theorem Reads.at_ {w : World} {a : Option Addr} {cap n : Nat} {xs : List Value} (h : Reads w 1 (.slice a n cap) n xs) {j : Nat} (hj : j < n) : ∃ b off, a = some ⟨b, off, none⟩ ∧ w.cell? ⟨b, off + j, none⟩ = xs[j]? := by
  obtain ⟨b, off, c, e, hc⟩ := h.cell hj
  cases e
  exact ⟨b, off, rfl, hc⟩

theorem Reads.sub {w : World} {v : Value} {n : Nat} {xs : List Value} {size : Nat} (h : Reads w size v n xs) : ∃ a cap, v = .slice a n cap := by
  obtain ⟨hl, ⟨rfl, rfl⟩ | ⟨x, cap, a1, _⟩⟩ := h
  · exact ⟨_, _, rfl⟩
  · exact ⟨_, _, a1⟩

theorem Reads.same {w w' : World} {v : Value} {n : Nat} {xs : List Value} {size : Nat} (h : Reads w size v n xs) (hw : ∀ a, (w.cell? a).isSome → w'.cell? a = w.cell? a) : Reads w' size v n xs := by
  obtain ⟨hl, a | ⟨x, cap, a1, a2, a3, a4⟩⟩ := h
  · exact ⟨hl, .inl a⟩
  · exact ⟨hl, .inr ⟨x, cap, a1, a2, a3, fun j u hu => by rw [hw _ (by rw [a4 j u hu]; rfl)]; exact a4 j u hu⟩⟩

/-- The slice v is the head of a block of its own, to be read alone. -/
def rdo (size : Nat) (v : Value) (n : Nat) (xs : List Value) : SProp := fun h =>
  xs.length = n * size ∧ ∃ g cap cur e fr, v = .slice (some ⟨g, 0, none⟩) n cap ∧ n ≤ cap ∧ cap ≤ maxLen ∧ cur.toList.take (n * size) = xs ∧ blk g (.cells cur e fr) h

theorem St.rdo_blk {w0 w : World} {e : TypeId} {size : Nat} {n cap g : Nat} {xs : List Value} {cur : Array Value} {fr : Nat × Nat} {F : SProp} (h : St w0 w (blk g (.cells cur e fr) * F))
    (hn : n ≤ cap) (hc : cap ≤ maxLen) (hl : xs.length = n * size) (ht : cur.toList.take (n * size) = xs) : St w0 w (rdo size (.slice (some ⟨g, 0, none⟩) n cap) n xs * F) :=
  h.imp_l fun x b => ⟨hl, g, cap, cur, e, fr, rfl, hn, hc, ht, b⟩

theorem St.rdo_reads {w0 w : World} {size : Nat} {v : Value} {n : Nat} {xs : List Value} {F : SProp} (h : St w0 w (rdo size v n xs * F)) : Reads w size v n xs := by
  obtain ⟨y, ⟨h1, h2, d, u, ⟨hl, g, cap, cur, e, fr, a1, a2, a3, a5, a6⟩, f⟩, l⟩ := h.sat
  have hb : St w0 w (blk g (.cells cur e fr) * F) := ⟨h.os, h.tape, h.output, h.size, y, ⟨h1, h2, d, u, a6, f⟩, l⟩
  refine ⟨hl, .inr ⟨_, cap, a1, a2, a3, fun j u hu => ?_⟩⟩
  rw [Addr.add_lit, Nat.zero_add, hb.cells]
  subst a5
  rw [List.getElem?_take] at hu
  split at hu
  · simpa using hu
  · cases hu
theorem Stb.of_rdo {w0 : World} {size : Nat} {v : Value} {n : Nat} {xs : List Value} {F : SProp} : Stb w0 (rdo size v n xs * F) (fun w => Reads w size v n xs) := fun _ h => h.rdo_reads

theorem St.lit {w0 w : World} {F : SProp} (h : St w0 w F) (c : Array Value) (e : TypeId) (n : Nat) (hn : c.size = n) (hm : n ≤ maxLen) :
    St w0 (w.alloc (.cells c e)) (own e 1 (.slice (some ⟨w.heap.size, 0, none⟩) n n) n c.toList * F) :=
  St.own_blk (h.alloc (.cells c e)) (Nat.le_refl _) hm (by omega) (by rw [Nat.mul_one]; exact List.take_of_length_le (by simp; omega))

theorem Stb.of_own {w0 : World} {e : TypeId} {size : Nat} {v : Value} {n : Nat} {xs : List Value} {F : SProp} : Stb w0 (own e size v n xs * F) (fun w => Reads w size v n xs) := fun _ h => h.reads
theorem Stb.of_old {w0 : World} {size : Nat} {v : Value} {n : Nat} {xs : List Value} (h : Reads w0 size v n xs) : Stb w0 (old w0) (fun w => Reads w size v n xs) := fun w s => by
  refine h.same fun b hb => ?_
  have e : w.heap[b.block]? = w0.heap[b.block]? := by
    have s' : St w0 w (old w0 * emp) := s.perm ((emp_star _).symm.trans (star_comm _ _))
    refine s'.old_at ?_
    obtain ⟨x, hx⟩ := Option.isSome_iff_exists.1 hb
    exact World.block_lt_of_cell? _ _ hx
  simp [World.cell?, e]

theorem St.own_set {w0 w : World} {e : TypeId} {g n cap : Nat} {xs : List Value} {F : SProp} (h : St w0 w (own e 1 (.slice (some ⟨g, 0, none⟩) n cap) n xs * F)) (i : Nat) (u : Value) :
    St w0 (w.setCell ⟨g, i, none⟩ u) (own e 1 (.slice (some ⟨g, 0, none⟩) n cap) n (xs.set i u) * F) := by
  obtain ⟨hl, ⟨a1, _⟩ | ⟨g', cap', cur, a1, a2, a3, a4, a5, a6⟩⟩ := h.own_split
  · cases a1
  · cases a1
    refine St.own_blk (a6.set i u) a2 a3 (by simpa using a4) ?_
    rw [← a5, Array.toList_setIfInBounds, List.take_set]

theorem St.own_free {w0 w : World} {e : TypeId} {g n cap size : Nat} {xs : List Value} {F : SProp} (h : St w0 w (own e size (.slice (some ⟨g, 0, none⟩) n cap) n xs * F)) (i : Nat) : w.frozen? ⟨g, i, none⟩ = false := by
  obtain ⟨hl, ⟨a1, _⟩ | ⟨g', cap', cur, a1, a2, a3, a4, a5, a6⟩⟩ := h.own_split
  · cases a1
  · cases a1
    exact a6.free i

theorem St.own_cell {w0 w : World} {e : TypeId} {g n cap : Nat} {xs : List Value} {F : SProp} (h : St w0 w (own e 1 (.slice (some ⟨g, 0, none⟩) n cap) n xs * F)) {i : Nat} {u : Value} (hu : xs[i]? = some u) : w.cell? ⟨g, i, none⟩ = some u := by
  obtain ⟨hl, ⟨a1, _⟩ | ⟨x, c, a1, a2, a3, a4⟩⟩ := h.reads
  · cases a1
  · cases a1
    have := a4 i u hu
    rw [Addr.add_lit, Nat.zero_add] at this
    exact this

/-- What the program's tables say of a slice type t of elements e. -/
structure ElemT (P : Program) (t e : TypeId) (size bytes : Nat) (z : Value) : Prop where
  sl : P.underlying t = some (.slice e)
  inf : ∃ i, P.info? e = some i ∧ i.zero = some z ∧ i.size = size ∧ i.bytes = bytes
  zs : z.cells.size = size
  pos : 0 < size

theorem run_append_sep {P : Program} {w0 w : World} {F : SProp} {t e : TypeId} {size bytes : Nat} {z : Value} (T : ElemT P t e size bytes z) (ty : TypeId) {v : Value} {n : Nat} {xs : List Value}
    (h : St w0 w (own e size v n xs * F)) {x : Value} {m : Nat} {news : List Value} (hx : Reads w size x m news) (h1 : ∀ u ∈ news, u.oneCell' = true)
    (h63 : n + m ≤ maxLen) (hbytes : (n + m) * bytes ≤ 140737488355328) :
    ∃ v' w', (Builtin.append_ #[t, t] ty #[v, x]).run P w = .ok v' w' ∧ St w0 w' (own e size v' (n + m) (xs ++ news) * F) ∧ (v' = .slice none 0 0 ↔ v = .slice none 0 0 ∧ m = 0) := by
  obtain ⟨ht, ⟨i, hi, hz, rfl, rfl⟩, hzs, hsz⟩ := T
  obtain ⟨hxl, hx⟩ := hx
  rcases hx with ⟨rfl, rfl⟩ | ⟨ax, cap', rfl, hc1, hc2, hnews⟩
  · have hn : news = [] := List.eq_nil_of_length_eq_zero (by simpa using hxl)
    subst hn
    refine ⟨v, w, run_append_owned_none w 0 t ty e i i.size ht hi v n xs h.own_row, by simpa using h, by simp⟩
  have hsmall : n + m ≤ 9223372036854775807 := by simp only [maxLen] at h63; omega
  obtain ⟨hl, a⟩ := h.own_split
  have hlen : (xs ++ news).length = (n + m) * i.size := by rw [List.length_append, hl, hxl, Nat.add_mul]
  have grown : St w0 w F → ∀ (old : Nat), old < n + m →
      St w0 (w.drew.alloc (.cells (xs.toArray ++ news.toArray ++ Builtin.zeroCells z.cells (grownCap w (n + m) old e - (n + m))) e))
        (own e i.size (.slice (some ⟨w.heap.size, 0, none⟩) (n + m) (grownCap w (n + m) old e)) (n + m) (xs ++ news) * F) := by
    intro hF old ho
    have hge := grownCap_ge w (n + m) old e
    have hcm : grownCap w (n + m) old e ≤ maxLen := grownCap_le_maxLen w (n + m) old e h63
    have ha := hF.drew.alloc (.cells (xs.toArray ++ news.toArray ++ Builtin.zeroCells z.cells (grownCap w (n + m) old e - (n + m))) e)
    refine ha.own_blk hge hcm ?_ ?_
    · simp only [Array.size_append, List.size_toArray, size_zeroCells, hzs, hl, hxl, ← Nat.add_mul]
      congr 1
      omega
    · simp only [Array.toList_append, List.append_assoc]
      rw [← List.append_assoc, ← hlen]
      exact List.take_left
  rcases a with ⟨rfl, rfl, hF⟩ | ⟨g, cap, cur, rfl, hnc, hcm, hcs, htake, hB⟩
  · have hx0 : xs = [] := List.eq_nil_of_length_eq_zero (by simpa using hl)
    subst hx0
    by_cases hm : m = 0
    · subst hm
      have hn : news = [] := List.eq_nil_of_length_eq_zero (by simpa using hxl)
      subst hn
      refine ⟨.slice none 0 0, w, ?_, h, by simp⟩
      simp [Builtin.append_, run_underlying ht, sizeOf, typeInfo, hi, Builtin.lenOf, Builtin.firstCells, loadCells, loadCellsFrom]
    · have hr := run_append_nil (P := P) w t ty e i z ht hi hz ax m cap' news hxl hnews (by omega) (by omega) (by have hb := hbytes; simp only [Nat.zero_add] at hb; omega)
      have hgr := grown hF 0 (by omega)
      simp only [Nat.zero_add, List.nil_append, Array.empty_append] at hgr ⊢
      exact ⟨_, _, hr, hgr, by simp [hm]⟩
  · by_cases hroom : n + m ≤ cap
    · have hfit : n * i.size + news.length ≤ cur.size := by rw [hxl, hcs, ← Nat.add_mul]; exact Nat.mul_le_mul_right _ hroom
      have hr := run_append_room (P := P) w t ty e i ht hi g n cap cur hB.at_ ax m cap' news hxl hnews h1 hroom hfit
      refine ⟨_, _, hr, ?_, by simp⟩
      refine St.own_blk (cur := (cur.toList.take (n * i.size) ++ news ++ cur.toList.drop (n * i.size + news.length)).toArray) (hB.upd rfl rfl rfl (by simp) ?_ ?_) hroom hcm ?_ ?_
      · exact setRow_heap w g cur _ e _ hB.at_
      · exact fun k _ hk => setRow_other w g k _ (fun e => hk (by simp [e]))
      · simp only [List.size_toArray, List.length_append, List.length_take, List.length_drop, Array.length_toList]
        omega
      · rw [htake, ← hlen]
        exact List.take_left
    · have holds : ∀ j u, xs[j]? = some u → w.cell? ((⟨g, 0, none⟩ : Addr).add j) = some u := by
        intro j u hu
        rw [Addr.add_lit, Nat.zero_add, hB.cells]
        subst htake
        rw [List.getElem?_take] at hu
        split at hu
        · simpa using hu
        · cases hu
      have hr := run_append_grow (P := P) w t ty e i z ht hi hz ⟨g, 0, none⟩ n cap xs hl holds ax m cap' news hxl hnews (by omega) (by omega) (growslice_fits (by omega) hbytes)
      exact ⟨_, _, hr, grown hB.right cap (by omega), by simp⟩

theorem wpList_append_sep {P : Program} {w0 w : World} {F : SProp} {t e : TypeId} {size bytes : Nat} {z : Value} (T : ElemT P t e size bytes z)
    {ops : Array Oper} {rest : List Oper} {o : Oper} {a : Act} {Q : Exit → Act → World → Prop} (hgd : o.guard = none) (s y : Operand)
    (ho : o.op = .call { callee := .builtin .append, args := #[s, y], argTypes := #[t, t] }) {v : Value} {n : Nat} {xs : List Value} (hs : a.eval s = v)
    (h : St w0 w (own e size v n xs * F)) {x : Value} {m : Nat} {news : List Value} (hy : a.eval y = x) (hx : Reads w size x m news) (h1 : ∀ u ∈ news, u.oneCell' = true)
    (h63 : n + m ≤ maxLen) (hbytes : (n + m) * bytes ≤ 140737488355328)
    (hK : ∀ v' w', St w0 w' (own e size v' (n + m) (xs ++ news) * F) → (v' = .slice none 0 0 ↔ v = .slice none 0 0 ∧ m = 0) → wpList P ops Q rest (a.put o.dst v') w') : wpList P ops Q (o :: rest) a w := by
  refine wpList_plain hgd fun K hk => ?_
  obtain ⟨v', w', hr, h2, h3⟩ := run_append_sep T o.type h hx h1 h63 hbytes
  unfold Oper.wp execOp
  simp only [ho, resolve, invoke, builtin, Sem.run_bind, Sem.run_pure, Result.andThen_ok, List.map_toArray, List.map_cons, List.map_nil, hs, hy, hr]
  exact hk _ _ (hK v' w' h2 h3)

#print axioms wpList_append_sep
#print axioms St.new
#print axioms St.below
end Go.Mz
