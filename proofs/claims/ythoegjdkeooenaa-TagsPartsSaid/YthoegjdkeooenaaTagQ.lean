/-
  Layer 23: the function values of tags.Fields (a field, a flag, is this its tag, which of two tags comes first).
-/
import Derived.Test.YthoegjdkeooenaaTagO
import Derived.Test.YthoegjdkeooenaaTagP
import Derived.Test.YthoegjdkeooenaaPhase
namespace Go.Proofs.Ythoegjdkeooenaa
open Go.RowKit Go.Mz
set_option linter.unusedVariables false
set_option linter.unusedSimpArgs false
set_option maxRecDepth 100000

theorem bodyPost_ret1c {P : Program} {fn : Func} {R : Ending → World → Prop} {x : Nat} {ty e : TypeId} {cs : Array Value} {fr : Nat × Nat} {b : Nat} {a : Act} {w : World} {d : TypeDesc} (h : fn.results = #[.cell x ty])
    (hx : a.tmps.getD x undef = .pointer (some ⟨b, 0, none⟩)) (hg : w.heap[b]? = some (.cells cs e fr)) (hu : P.underlying ty = some d) (hd : (match d with | .struct _ | .array _ _ => true | _ => false) = true) (hi : (P.info? ty).map (·.size) = some cs.size)
    (hf : a.defers = []) (hR : R (.returned (.agg cs)) w) : bodyPost P fn R .ret a w := by
  refine ⟨hf, _, ?_, hR⟩
  have hx' : a.tmps[x]?.getD undef = .pointer (some ⟨b, 0, none⟩) := by simpa using hx
  simp [results, h, hx', asAddr, run_loadVar_row w b e ty cs fr d hg hu hd hi]
theorem wrap_u64N (x : Int) : IntKind.u64.wrap x = (u64N x : Int) := by
  unfold u64N
  simp only [IntKind.wrap, IntKind.bits, IntKind.signed]
  simp
  omega
theorem ent_number (args : Array Value) (w : World) : (callFunc 35 args).run Try.prog w = .ok (.enter 35 args) w := enters_fn Try.func35 (by kernel_rfl) rfl args w
theorem ent_flag (args : Array Value) (w : World) : (callFunc 36 args).run Try.prog w = .ok (.enter 36 args) w := enters_fn Try.func36 (by kernel_rfl) rfl args w
/-- A field out of its tag, type and values. -/
theorem number_any {w0 w : World} {B : SProp} (h : St w0 w B) (t : Int) (k : Int) (a : Option Addr) (n c : Nat) :
    Calls Try.prog 35 #[.int .u16 t, .int .i64 k, .slice a n c] w fun e w' => e = .returned (.agg #[.int .u16 t, .int .i64 k, .slice a n c]) ∧ St w0 w' B := by
  have hA := h.alloc (.cells #[.int .u16 0, .int .i64 0, .slice none 0 0] 53)
  have HA := Lib.hid hA
  have HB := Lib.hid (hA.setRow #[.int .u16 t, .int .i64 k, .slice a n c])
  clear h hA
  go_enter Try.func35, Try.ntmps35
  go_wp2_with (refine wpList_store_blk rfl 53 _ _ rfl HA.out rfl rfl (by show _ = some 3; kernel_rfl) rfl rfl ?_)
  refine bodyPost_ret1c rfl rfl HB.out.at_ Try.underlying53 rfl (by show _ = some 3; kernel_rfl) rfl ?_
  exact ⟨rfl, HB.out.right⟩
theorem flag_any {w0 w : World} {B : SProp} (h : St w0 w B) (b : Bool) :
    Calls Try.prog 36 #[.bool b] w fun e w' => e = .returned (.int .u64 (twoN b : Nat)) ∧ St w0 w' B := by
  have H := Lib.hid h; clear h
  cases b
  · go_enter Try.func36, Try.ntmps36
    go_wp2_with fail
    go_ret
    exact ⟨rfl, H.out⟩
  · go_enter Try.func36, Try.ntmps36
    go_wp2_with fail
    go_ret
    exact ⟨rfl, H.out⟩
/-- The question 'has it the tag of this field?'. -/
theorem pred_tag {w0 : World} {F : SProp} {b t : Nat} {c1 c2 : Value} {e : TypeId} {fr : Nat × Nat} : PredG w0 (blk b (.cells #[.int .u16 (t : Int), c1, c2] e fr) * F) 38 (.pointer (some ⟨b, 0, none⟩)) (fun f => f.tag == t) := by
  refine ⟨enters_fn Try.func38 (by kernel_rfl) rfl, fun W h a n cap o => ?_⟩
  have hA := (h.alloc (.cells #[.int .u16 (o.tag : Int), .int .i64 o.kind, .slice a n cap] 53))
  have c0 := hA.right.cell 0 rfl
  have c4 := hA.cell 0 rfl
  have HA := Lib.hid hA; clear hA
  clear h
  go_enter Try.func38, Try.ntmps38
  go_wp2_with fail
  go_ret
  exact ⟨congrArg (fun b => Ending.returned (.bool b)) (cast_beq _ _), HA.out.right⟩
def cmpT (x y : Nat) : Int := if x < y then -1 else if y < x then 1 else 0
theorem compare16_any {w : World} (x y : Nat) : Calls Try.prog 41 #[.int .u16 (x : Int), .int .u16 (y : Int)] w fun e w' => e = .returned (.int .i64 (cmpT x y)) ∧ w = w' := by
  by_cases h1 : x < y
  · have h2 : (x : Int) < y := by omega
    go_enter Try.func41, Try.ntmps41
    go_wp2
    go_ret
    exact ⟨by rw [cmpT, if_pos h1]; rfl, rfl⟩
  · have h2 : ¬ (x : Int) < y := by omega
    by_cases h3 : y < x
    · have h4 : (y : Int) < x := by omega
      go_enter Try.func41, Try.ntmps41
      go_wp2
      go_ret
      exact ⟨by rw [cmpT, if_neg h1, if_pos h3]; rfl, rfl⟩
    · have h4 : ¬ (y : Int) < x := by omega
      go_enter Try.func41, Try.ntmps41
      go_wp2
      go_ret
      exact ⟨by rw [cmpT, if_neg h1, if_neg h3]; rfl, rfl⟩
end Go.Proofs.Ythoegjdkeooenaa
