/-
  Layer 8 (inflate): what blocks stand for, as plain Lean; no program.
-/
import Derived.Test.YtddifndfppilkaaGreatTrieC
import Derived.Test.YtddifndfppilkaaGreatHufC
namespace Go.Proofs.YtddifndfppilkaaGreat
open Go.RowKit Go.Mz
set_option linter.unusedVariables false
set_option linter.unusedSimpArgs false

/-- A number of so many bits from a place on, the lowest first. -/
def vl (t : List Nat) (p n : Nat) : Nat := numV true (fun i => t.getD (p + i) 0) n
def fixN (k : Nat) : Nat := if k < 144 ∨ 280 ≤ k then 8 else if k < 256 then 9 else 7
def fixA : List Nat := (List.range 288).map fixN
def fixB : List Nat := List.replicate 30 5
def fromL : Nat → Nat
  | 0 => 3
  | k + 1 => fromL k + 2 ^ (k / 4 - 1)
def fromD : Nat → Nat
  | 0 => 1
  | k + 1 => fromD k + 2 ^ (k / 2 - 1)
def lensB : List (Nat × Nat) := (List.range 28).map (fun k => (fromL k, k / 4 - 1)) ++ [(258, 0)]
def distsB : List (Nat × Nat) := (List.range 30).map fun k => (fromD k, k / 2 - 1)
def orderL : List Nat := [16, 17, 18, 0, 8, 7, 9, 6, 10, 5, 11, 4, 12, 3, 13, 2, 14, 1, 15]

/-- Canonical words; how: 0 they must be full, 1 one alone will do, 2 it doesn't matter. -/
def usedL (l : List Nat) : Nat := (l.filter (fun n => decide (0 < n))).length
def longL (l : List Nat) : Nat := l.foldl max 0
def wordsF (l : List Nat) (how : Nat) : Nat ⊕ List (List Nat) :=
  let c := canonI (l.map fun (n : Nat) => (n : Int))
  if c.2.2 ≠ 0 then .inl c.2.2
  else if c.2.1 = false ∧ (how = 0 ∨ how = 1 ∧ (1 < usedL l ∨ 1 < longL l)) then .inl 3
  else .inr c.1

def bytesF (t : List Nat) (most : Nat) : Nat → Nat → List UInt8 → Nat ⊕ (Nat × List UInt8)
  | 0, p, out => .inr (p, out)
  | n + 1, p, out =>
    if t.length < p + 8 then .inl 2 else if most ≤ out.length then .inl 8 else bytesF t most n (p + 8) (out ++ [UInt8.ofNat (vl t p 8)])
def storedF (t : List Nat) (most p : Nat) (out : List UInt8) : Nat ⊕ (Nat × List UInt8) :=
  let q := (p + 7) / 8 * 8
  if t.length < q + 32 then .inl 2
  else if vl t q 16 + vl t (q + 16) 16 ≠ 65535 then .inl 3
  else bytesF t most (vl t q 16) (q + 32) out
def lengthsF (t : List Nat) (W : List (List Nat)) (n : Nat) : Nat → List Nat → Nat → Nat ⊕ (Nat × List Nat)
  | 0, _, _ => .inl 99
  | f + 1, all, p =>
    if all.length < n then
      match rdW W [] (t.drop p) with
      | (_, .inr e) => .inl e
      | (k, .inl v) =>
        if v < 16 then lengthsF t W n f (all ++ [v]) (p + k)
        else if v = 16 ∧ all = [] then .inl 3
        else
          let value := if v = 16 then all.getD (all.length - 1) 0 else 0
          let least := if v = 18 then 11 else 3
          let wide := if v = 16 then 2 else if v = 18 then 7 else 3
          if t.length < p + k + wide then .inl 2
          else lengthsF t W n f (all ++ List.replicate (least + vl t (p + k) wide) value) (p + k + wide)
    else if n < all.length then .inl 3 else .inr (p, all)
def numberF (t : List Nat) (l : List (Nat × Nat)) (i p : Nat) : Nat ⊕ (Nat × Nat) :=
  match l[i]? with
  | none => .inl 6
  | some b => if t.length < p + b.2 then .inl 2 else .inr (p + b.2, b.1 + vl t p b.2)
/-- So many bytes, each as far behind. -/
def copyF (d : Nat) : Nat → List UInt8 → List UInt8
  | 0, out => out
  | n + 1, out => copyF d n (out ++ [out.getD (out.length - d) 0])
def copyR (t : List Nat) (B : List (List Nat)) (most n p : Nat) (out : List UInt8) : Nat ⊕ (Nat × List UInt8) :=
  match rdW B [] (t.drop p) with
  | (_, .inr e) => .inl e
  | (k, .inl v) =>
    match numberF t distsB v (p + k) with
    | .inl e => .inl e
    | .inr (q, d) => if out.length < d then .inl 3 else if most < out.length + n then .inl 8 else .inr (q, copyF d n out)
/-- One word's, and what hangs on it; whether it was the end. -/
def blockS (t : List Nat) (A B : List (List Nat)) (most p : Nat) (out : List UInt8) : Nat ⊕ (Nat × List UInt8 × Bool) :=
  match rdW A [] (t.drop p) with
  | (_, .inr e) => .inl e
  | (k, .inl v) =>
    if v = 256 then .inr (p + k, out, true)
    else if v < 256 then (if most ≤ out.length then .inl 8 else .inr (p + k, out ++ [UInt8.ofNat v], false))
    else
      match numberF t lensB (v - 257) (p + k) with
      | .inl e => .inl e
      | .inr (q, n) =>
        match copyR t B most n q out with
        | .inl e => .inl e
        | .inr (q', out') => .inr (q', out', false)
def blockF (t : List Nat) (A B : List (List Nat)) (most : Nat) : Nat → Nat → List UInt8 → Nat ⊕ (Nat × List UInt8)
  | 0, _, _ => .inl 99
  | f + 1, p, out =>
    match blockS t A B most p out with
    | .inl e => .inl e
    | .inr (q, o, true) => .inr (q, o)
    | .inr (q, o, false) => blockF t A B most f q o
/-- A block by words of lengths. -/
def blockL (t : List Nat) (la lb : List Nat) (how most p : Nat) (out : List UInt8) : Nat ⊕ (Nat × List UInt8) :=
  match wordsF la 0 with
  | .inl e => .inl e
  | .inr A =>
    match wordsF lb how with
    | .inl e => .inl e
    | .inr B => blockF t A B most (t.length + 1 - p) p out
/-- The lengths of words of lengths. -/
def metaF (t : List Nat) : List Nat → Nat → List Nat → Nat ⊕ (Nat × List Nat)
  | [], p, lens => .inr (p, lens)
  | i :: r, p, lens => if t.length < p + 3 then .inl 2 else metaF t r (p + 3) (lens.set i (vl t p 3))
def dynamicF (t : List Nat) (most p : Nat) (out : List UInt8) : Nat ⊕ (Nat × List UInt8) :=
  if t.length < p + 14 then .inl 2
  else
    let lits := vl t p 5 + 257
    let dists := vl t (p + 5) 5 + 1
    let m := vl t (p + 10) 4 + 4
    if 286 < lits ∨ 30 < dists then .inl 3
    else
      match metaF t (orderL.take m) (p + 14) (List.replicate 19 0) with
      | .inl e => .inl e
      | .inr (q, lens) =>
        match wordsF lens 0 with
        | .inl e => .inl e
        | .inr W =>
          match lengthsF t W (lits + dists) (lits + dists + 1) [] q with
          | .inl e => .inl e
          | .inr (q', all) => if all.getD 256 0 = 0 then .inl 3 else blockL t (all.take lits) (all.drop lits) 1 most q' out
def partF (t : List Nat) (most h p : Nat) (out : List UInt8) : Nat ⊕ (Nat × List UInt8) :=
  if h = 0 then storedF t most p out else if h = 1 then blockL t fixA fixB 2 most p out else if h = 2 then dynamicF t most p out else .inl 3
def inflF (t : List Nat) (most : Nat) : Nat → Nat → List UInt8 → Nat ⊕ (Nat × List UInt8)
  | 0, _, _ => .inl 99
  | f + 1, p, out =>
    if t.length < p + 3 then .inl 2
    else
      match partF t most (vl t p 3 / 2) (p + 3) out with
      | .inl e => .inl e
      | .inr (q, out') => if vl t p 3 % 2 = 1 then .inr (q, out') else inflF t most f q out'

theorem peekV_vl (bs : List UInt8) (p n : Nat) : peekV bs true p n = vl (bitsL true bs) p n := by
  rw [peekV, vl]
  exact numV_congr true n fun i _ => (bitsL_getD true bs (p + i)).symm
theorem vl_lt (bs : List UInt8) (p n : Nat) : vl (bitsL true bs) p n < 2 ^ n := by rw [← peekV_vl]; exact peekV_lt _ _ _ _
end Go.Proofs.YtddifndfppilkaaGreat
