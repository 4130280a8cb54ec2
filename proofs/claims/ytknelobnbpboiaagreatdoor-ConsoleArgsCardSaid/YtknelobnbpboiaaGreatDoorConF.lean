/-
  Layer 28 (console): of layer 27 what the console's example comes to: an image of two noughts is right; a file of no bytes isn't decoded.
-/
import Derived.Test.YtknelobnbpboiaaGreatDoorTagS
import Derived.Test.YtknelobnbpboiaaGreatDoorChecked
import Derived.Great.Walk
import Derived.Deep.CutRange
import Derived.BigQuiet
namespace Go.Proofs.YtknelobnbpboiaaGreatDoor
open Go.RowKit Go.Mz
set_option linter.unusedVariables false
set_option linter.unusedSimpArgs false
set_option maxRecDepth 100000

theorem ret2cC {P : Program} {fn : Func} {R : Ending → World → Prop} {x u : Nat} {ty e : TypeId} {cs : Array Value} {fr : Nat × Nat} {b : Nat} {a : Act} {w : World} {d : TypeDesc} (h : fn.results = #[.cell x ty, .tmp u])
    (hx : a.tmps.getD x undef = .pointer (some ⟨b, 0, none⟩)) (hg : w.heap[b]? = some (.cells cs e fr)) (hu : P.underlying ty = some d) (hd : (match d with | .struct _ | .array _ _ => true | _ => false) = true) (hi : (P.info? ty).map (·.size) = some cs.size)
    (hf : a.defers = []) (hR : R (.returned (.tuple #[.agg cs, a.tmps.getD u undef])) w) : bodyPost P fn R .ret a w := by
  refine ⟨hf, _, ?_, hR⟩
  have hx' : a.tmps[x]?.getD undef = .pointer (some ⟨b, 0, none⟩) := by simpa using hx
  simp [results, h, hx', asAddr, run_loadVar_row w b e ty cs fr d hg hu hd hi]
theorem ret4cC {P : Program} {fn : Func} {R : Ending → World → Prop} {x u v s : Nat} {ty e : TypeId} {cs : Array Value} {fr : Nat × Nat} {b : Nat} {a : Act} {w : World} {d : TypeDesc} (h : fn.results = #[.tmp u, .tmp v, .cell x ty, .tmp s])
    (hx : a.tmps.getD x undef = .pointer (some ⟨b, 0, none⟩)) (hg : w.heap[b]? = some (.cells cs e fr)) (hu : P.underlying ty = some d) (hd : (match d with | .struct _ | .array _ _ => true | _ => false) = true) (hi : (P.info? ty).map (·.size) = some cs.size)
    (hf : a.defers = []) (hR : R (.returned (.tuple #[a.tmps.getD u undef, a.tmps.getD v undef, .agg cs, a.tmps.getD s undef])) w) : bodyPost P fn R .ret a w := by
  refine ⟨hf, _, ?_, hR⟩
  have hx' : a.tmps[x]?.getD undef = .pointer (some ⟨b, 0, none⟩) := by simpa using hx
  simp [results, h, hx', asAddr, run_loadVar_row w b e ty cs fr d hg hu hd hi]

set_option maxHeartbeats 4000000 in
theorem rhead_nil {w0 w : World} {F : SProp} (h : St w0 w F) : Calls Tryz.prog 86 #[.slice none 0 0] w fun e w' => e = .returned (.tuple #[.agg #[.bool false, .bool false, .int .u64 0], .int .i64 2]) ∧ St w0 w' F := by
  have H := Lib.hid h; clear h
  go_enter Tryz.func86, Tryz.ntmps86
  go_wp2_with fail
  refine ret2cC rfl rfl (H.out.alloc _).at_ Tryz.underlying105 rfl (by show _ = some 3; kernel_rfl) rfl ?_
  exact ⟨rfl, H.out.drop_alloc _⟩
#print axioms rhead_nil

set_option maxHeartbeats 4000000 in
theorem fdec_nil {w0 w : World} {F : SProp} (h : St w0 w F) (p c k : Int) : Calls Tryz.prog 58 #[.slice none 0 0, .agg #[.int .i64 p, .int .i64 c, .int .i64 k]] w fun e w' => e = .returned (.tuple #[.slice none 0 0, .slice none 0 0, .agg #[.bool false, .bool false, .int .u64 0], .int .i64 2]) ∧ St w0 w' F := by
  have h1 := (h.alloc (.cells #[.int .i64 p, .int .i64 c, .int .i64 k] 109)).alloc (.cells #[.bool false, .bool false, .int .u64 0] 105)
  rw [World.size_alloc] at h1
  have H1 := Lib.hid h1; clear h1 h
  obtain ⟨q, hq⟩ : ∃ q, w.heap.size + 1 = q := ⟨_, rfl⟩
  rw [hq] at H1
  go_enter Tryz.func58, Tryz.ntmps58
  go_upto_region 1 with (fail)
  try rw [hq]
  clear hq
  go_wp2_with (first
    | (refine wpList_store_blk rfl 105 _ _ rfl (H3.out) rfl rfl (by show _ = some 3; kernel_rfl) rfl rfl ?_; have H4 := Lib.hid (H3.out.setRow #[.bool false, .bool false, .int .u64 0]); clear H3)
    | (go_at_call 86; refine (rhead_nil H1.out).mono ?_; rintro e w2 ⟨rfl, h2⟩; have H3 := Lib.hid ((h2.drop_alloc (.cells #[.bool false, .bool false, .int .u64 0] 105))); clear h2 H1))
  refine ret4cC rfl rfl H4.out.at_ Tryz.underlying105 rfl (by show _ = some 3; kernel_rfl) rfl ?_
  exact ⟨rfl, H4.out.right.right⟩
#print axioms fdec_nil

def imgC (v : Value) : Array Value := #[.int .i64 2, .int .i64 1, .int .i64 1, .int .i64 8, .int .u64 0, v, .slice none 0 0]
theorem ent_fn {P : Program} {f : FuncId} {fn : Func} {c : Code} (hf : P.funcs[f]? = some fn) (hname : (fn.name == "runtime.NumGoroutine") = false) (hb : fn.body = some c) (args : Array Value) (w : World) : (callFunc f args).run P w = .ok (.enter f args) w := enters_of hf hname hb args w
set_option maxHeartbeats 4000000 in
theorem right1_any {w : World} {g : Nat} (h3 : w.cell? ⟨g, 3, none⟩ = some (.int .i64 8)) : Calls Tryz.prog 74 #[.int .u32 0, .pointer (some ⟨g, 0, none⟩)] w fun e w' => e = .returned (.bool false) ∧ w' = w := by
  go_enter Tryz.func74, Tryz.ntmps74
  go_wp2
  go_ret
  exact ⟨rfl, rfl⟩
set_option maxHeartbeats 4000000 in
theorem ixf_any {w : World} {g b c : Nat} (h3 : w.cell? ⟨g, 3, none⟩ = some (.int .i64 8)) (c0 : w.cell? ⟨b, 0, none⟩ = some (.int .u32 0)) (c1 : w.cell? ⟨b, 1, none⟩ = some (.int .u32 0)) :
    Calls Tryz.prog 99 #[.slice (some ⟨b, 0, none⟩) 2 c, .func (.func 74) #[] #[.pointer (some ⟨g, 0, none⟩)]] w fun e w' => e = .returned (.int .i64 (-1)) ∧ w' = w := by
  have hent : ∀ args w, (callFunc 74 args).run Tryz.prog w = .ok (.enter 74 args) w := fun args w => enters_of Tryz.func74 (by kernel_rfl) rfl args w
  go_enter Tryz.func99, Tryz.ntmps99
  go_wp2
  go_loopw [8] (fun vi wr => ∃ k : Nat, k ≤ 2 ∧ vi = .int .i64 k ∧ wr = w) (fun vi _ => 2 - (intOf vi).toNat)
  case atStart => exact ⟨0, by omega, rfl, rfl⟩
  case round =>
    obtain ⟨k, hk, rfl, rfl⟩ := hrel
    rcases (by omega : k = 0 ∨ k = 1 ∨ k = 2) with rfl | rfl | rfl
    · go_wp2_with (go_at_call 74; refine (right1_any h3).mono ?_; rintro e w1 ⟨rfl, rfl⟩)
      exact ⟨⟨1, by omega, by simp⟩, by simp [intOf]⟩
    · go_wp2_with (go_at_call 74; refine (right1_any h3).mono ?_; rintro e w1 ⟨rfl, rfl⟩)
      exact ⟨⟨2, by omega, by simp⟩, by simp [intOf]⟩
    · go_wp2
      go_ret
      exact ⟨rfl, rfl⟩

theorem cnf_any {w : World} {g b c : Nat} (h3 : w.cell? ⟨g, 3, none⟩ = some (.int .i64 8)) (c0 : w.cell? ⟨b, 0, none⟩ = some (.int .u32 0)) (c1 : w.cell? ⟨b, 1, none⟩ = some (.int .u32 0)) :
    Calls Tryz.prog 73 #[.slice (some ⟨b, 0, none⟩) 2 c, .func (.func 74) #[] #[.pointer (some ⟨g, 0, none⟩)]] w fun e w' => e = .returned (.bool false) ∧ w' = w := by
  have hI := ixf_any (c := c) h3 c0 c1
  go_enter Tryz.func73, Tryz.ntmps73
  go_wp2_with (go_at_call 99; refine hI.mono ?_; rintro e w1 ⟨rfl, rfl⟩)
  go_ret
  exact ⟨rfl, rfl⟩
set_option maxHeartbeats 4000000 in
theorem right_any {w0 w : World} {F : SProp} {b c : Nat} (h : St w0 w (own 84 1 (.slice (some ⟨b, 0, none⟩) 2 c) 2 [.int .u32 0, .int .u32 0] * F)) :
    Calls Tryz.prog 54 #[.agg #[.int .i64 2, .int .i64 1, .int .i64 1, .int .i64 8, .int .u64 0, .slice (some ⟨b, 0, none⟩) 2 c, .slice none 0 0]] w fun e w' => e = .returned (.bool true) ∧
      St w0 w' (own 84 1 (.slice (some ⟨b, 0, none⟩) 2 c) 2 [.int .u32 0, .int .u32 0] * F) := by
  have h1 := h.alloc (.cells (imgC (.slice (some ⟨b, 0, none⟩) 2 c)) 95)
  have a0 := h1.cell 0 rfl
  have a1 := h1.cell 1 rfl
  have a2 := h1.cell 2 rfl
  have a3 := h1.cell 3 rfl
  have a4 := h1.cell 4 rfl
  have a5 := h1.cell 5 rfl
  have a6 := h1.cell 6 rfl
  have c0 := h1.right.own_cell (i := 0) rfl
  have c1 := h1.right.own_cell (i := 1) rfl
  have HC := Lib.hid (cnf_any (c := c) a3 c0 c1)
  have H := Lib.hid h1.right
  simp only [imgC] at *
  clear h h1 c0 c1
  go_enter Tryz.func54, Tryz.ntmps54
  go_upto_region 3 with (fail)
  obtain ⟨W, hW⟩ : ∃ W, w.alloc (.cells #[.int .i64 2, .int .i64 1, .int .i64 1, .int .i64 8, .int .u64 0, .slice (some ⟨b, 0, none⟩) 2 c, .slice none 0 0] 95) = W := ⟨_, rfl⟩
  rw [hW] at a0 a1 a2 a3 a4 a5 a6 HC H ⊢
  generalize w.heap.size = g at *
  clear hW
  go_wp2
  go_loopw [78] (fun vi wr => vi = .int .i64 0 ∧ wr = W) (fun _ _ => 0)
  case atStart => exact ⟨rfl, rfl⟩
  case round =>
    obtain ⟨rfl, rfl⟩ := hrel
    go_wp2_with (go_at_call 73; refine HC.out.mono ?_; rintro e w1 ⟨rfl, rfl⟩)
    go_ret
    exact ⟨rfl, H.out⟩
#print axioms right_any
end Go.Proofs.YtknelobnbpboiaaGreatDoor
