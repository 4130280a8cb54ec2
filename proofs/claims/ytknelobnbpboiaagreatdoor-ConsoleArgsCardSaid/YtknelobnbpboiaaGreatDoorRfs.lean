/-
  A range over a function, with memory in pieces: the iterator keeps its state in cells of its own, and gives known elements; the body never leaves the loop. Program-independent.
-/
import Derived.Test.YtknelobnbpboiaaGreatDoorSep
import Derived.RangeFuncNested
import Derived.RangeFuncBound
import Derived.RangeFuncCalls
import Derived.RangeFuncLeaves
import Derived.WalkKit
import Derived.OwnWalkIn
import Derived.TacticsInMore
namespace Go.Mz
open Go.RowKit
set_option linter.unusedVariables false

theorem St.put {w0 w : World} {b : Nat} {o o' : Obj} {F : SProp} (h : St w0 w (blk b o * F)) : St w0 (w.putObj b o') (blk b o' * F) :=
  h.upd rfl rfl rfl (by simp) (World.putObj_heap_same h.lt) (fun k _ hk => World.putObj_heap_other hk)

/-- The function g with what it has caught, lb, gives the elements xs one by one; C: its own memory. -/
def SeqS {α : Type} (F : Fence) (n : Nat) (P : Program) (g : Nat) (lb : Array Value) (encs : α → Array Value) (C : SProp) (xs : List α) : Prop :=
  ∀ (l : Nat) (w0 : World) (J : Nat → SProp) (G : SProp) (W : World),
    (∀ (k : Nat) (x : α) (W1 : World) (R : SProp), xs[k]? = some x → St w0 W1 (J k * R) →
      YieldAt F (n - 1) P l (encs x) W1 fun e W' => e = .returned (.bool true) ∧ St w0 W' (J (k + 1) * R)) →
    St w0 W (J 0 * (C * G)) →
    CallsIn F n P g (#[.func (.yield l) #[] #[]] ++ lb) W fun e W' => (∃ v, e = .returned v) ∧ ∃ G', St w0 W' (J xs.length * G')

variable {F : Fence} {n : Nat} {P : Program}

theorem wpIn_rangeFuncS {α : Type} {g : Operand} {ps : Array Tmp} {assign body : Code} {Q : Exit → Act → World → Prop} {a : Act} {w : World}
    (hro : F.round = none) (h1 : 1 ≤ n) {gf : Nat} {lb : Array Value} (hg : a.eval g = .func (.func gf) #[] lb) (hFg : F.fn gf) (eg : ∀ args w, (callFunc gf args).run P w = .ok (.enter gf args) w)
    {encs : α → Array Value} {C : SProp} {xs : List α} (hseq : SeqS F (n - 1) P gf lb encs C xs) (hps : ∀ x, (encs x).size = ps.size)
    {w0 : World} (I : Nat → SProp) {G : SProp} (h0 : St w0 w (I 0 * (C * G))) (a₁ : α → Act)
    (hassign : ∀ (l : Nat) (x : α) (W : World) (K : Act → World → Prop), K (a₁ x) W →
      assign.wpIn (F.inRound l) (n - 1 - 1) P (Exit.then K (fun _ _ _ => False)) { tmps := (ps.zip (encs x)).foldl (fun t (p, v) => t.setIfInBounds p v) a.tmps, defers := [] } W)
    (hbody : ∀ (l k : Nat) (x : α) (W : World) (R : SProp), xs[k]? = some x → St w0 W (I k * R) →
      body.wpIn (F.inRound l) (n - 1 - 1) P (Exit.then (fun _ W' => St w0 W' (I (k + 1) * R)) (fun _ _ _ => False)) (a₁ x) W)
    (hdone : ∀ (D : Nat) (W : World) (R : SProp), St w0 W (blk D (.deferred (some [])) * (I xs.length * R)) → Q .normal { a with defers := { target := .collected D, args := #[] } :: a.defers } W) :
    (Code.rangeFunc g ps assign body).wpIn F n P Q a w := by
  refine wpIn_rangeFunc ?_
  intro fn hfn
  rw [hro]
  obtain ⟨rec, hrec⟩ : ∃ rec : LoopState → Option Code → Loop, rec = fun st pe => { state := st, pending := pe, fn, tmps := a.tmps, params := ps, assign, body, defers := w.heap.size } := ⟨_, rfl⟩
  obtain ⟨L, hL⟩ : ∃ L, L = w.heap.size + 1 := ⟨_, rfl⟩
  obtain ⟨D, hD⟩ : ∃ D, D = w.heap.size := ⟨_, rfl⟩
  obtain ⟨W1, hW1⟩ : ∃ W1, (w.alloc (.deferred (some []))).alloc (.loop (rec .ready none)) = W1 := ⟨_, rfl⟩
  have hS1 : St w0 W1 (blk L (.loop (rec .ready none)) * (blk D (.deferred (some [])) * (I 0 * (C * G)))) := by
    rw [← hW1]
    have := (h0.alloc (.deferred (some []))).alloc (.loop (rec .ready none))
    rw [World.size_alloc] at this
    rw [hL, hD]
    exact this
  refine ⟨w.heap.size + 1, [{ target := .collected w.heap.size, args := #[] }], W1, { target := .fn (.func gf) lb, args := #[.func (.yield (w.heap.size + 1)) #[] #[]] }, W1, gf,
    #[.func (.yield (w.heap.size + 1)) #[] #[]] ++ lb, W1, ?_, ?_, ?_, ?_, fun _ => h1, ?_⟩
  · rw [← hW1, hrec]; exact run_enterLoop_outer _ _ _ _ _
  · simp only [resolve, hg]
    simp [go_sem]
  · intro f' hf'; simp [Target.leads] at hf'; subst hf'; exact hFg
  · simp [invoke, go_sem, eg]
  · rw [← hL]
    refine (hseq L w0 (fun k => blk L (.loop (rec .ready none)) * (blk D (.deferred (some [])) * I k)) G W1 ?_ (hS1.perm (by ac_rfl))).mono ?_
    · intro k x W R hk hS
      have hS' : St w0 W (blk L (.loop (rec .ready none)) * (blk D (.deferred (some [])) * (I k * R))) := hS.perm (by ac_rfl)
      have hl := hS'.at_
      have hy := run_yield (P := P) (args := encs x) hl (by rw [hrec]; exact hps x)
      rw [hrec] at hy
      refine ⟨fn, _, assign, body, hy, roundIn_of_wpIn hfn (hassign _ x W _ ⟨_, run_beginRound hl (by rw [hrec]), ?_⟩)⟩
      have hB : St w0 (W.putObj L (.loop { rec .ready none with state := .busy })) (I k * (blk L (.loop { rec .ready none with state := .busy }) * (blk D (.deferred (some [])) * R))) :=
        (hS'.put (o' := .loop { rec .ready none with state := .busy })).perm (by ac_rfl)
      refine wpIn_mono (hbody _ k x _ _ hk hB) ?_
      rintro e a3 W3 hp
      cases e with
      | normal =>
        have hS3 : St w0 W3 (blk L (.loop { rec .ready none with state := .busy }) * (blk D (.deferred (some [])) * (I (k + 1) * R))) := hp.perm (by ac_rfl)
        have := run_endRound (P := P) none hS3.at_
        refine ⟨_, _, this, rfl, ?_⟩
        have h4 := hS3.put (o' := .loop (rec .ready none))
        rw [hrec] at h4 ⊢
        exact h4.perm (by ac_rfl)
      | _ => exact hp.elim
    · rintro e W2 ⟨⟨v, rfl⟩, R, hS⟩
      have hS' : St w0 W2 (blk L (.loop (rec .ready none)) * (blk D (.deferred (some [])) * (I xs.length * R))) := hS.perm (by ac_rfl)
      refine ⟨none, _, by have := run_endLoop (P := P) hS'.at_ (by rw [hrec]; simp); rw [hrec] at this; exact this, ?_⟩
      have h4 := hS'.put (o' := .loop { rec .ready none with state := .exhausted })
      have h5 : St w0 _ (blk D (.deferred (some [])) * (I xs.length * (blk L (.loop { rec .ready none with state := .exhausted }) * R))) := h4.perm (by ac_rfl)
      rw [hrec] at h5
      rw [hD] at h5
      exact hdone _ _ _ h5
#print axioms wpIn_rangeFuncS
end Go.Mz
