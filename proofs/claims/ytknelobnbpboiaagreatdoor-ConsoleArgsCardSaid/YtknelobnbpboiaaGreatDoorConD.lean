/-
  Layer 28 (console): the tables of words, as maps.
-/
import Derived.Test.YtknelobnbpboiaaGreatDoorStm
import Derived.Test.YtknelobnbpboiaaGreatDoorChecked
namespace Go.Mz
open Go.RowKit
set_option linter.unusedVariables false
theorem putK_at (M : ByteArray → Option Value) (s : ByteArray) (v : Value) : putK M s v s = some v := by simp [putK]
theorem putK_ne {M : ByteArray → Option Value} {s k : ByteArray} {v : Value} {r : Option Value} (h : k ≠ s) (hr : M k = r) : putK M s v k = r := by simp [putK, h, hr]
section
variable {P : Program} {ops : Array Oper} {rest : List Oper} {o : Oper} {a : Act} {w0 w : World} {F : SProp} {t k e : TypeId} {b : Nat} {M : ByteArray → Option Value} {s : ByteArray} {u : Value} {Q : Exit → Act → World → Prop}
theorem wpList_insertK (hg : o.guard = none) (m x v : Operand) (ho : o.op = .insert t m x v) (ht : P.underlying t = some (.map k e)) (hk : P.underlying k = some .string)
    (h : St w0 w (mapK b M * F)) (hm : a.eval m = .map (some b)) (hx : a.eval x = .string s) (hv : a.eval v = u) (hM : M s = none)
    (hK : ∀ w', St w0 w' (mapK b (putK M s u) * F) → wpList P ops Q rest (a.put o.dst undef) w') : wpList P ops Q (o :: rest) a w := by
  refine wpList_plain hg fun K hk' => ?_
  obtain ⟨w', hr, h2⟩ := run_putK (v := u) ht hk h hM
  unfold Oper.wp execOp
  simp only [ho, Sem.run_bind, Sem.run_pure, Result.andThen_ok, hm, hx, hv, hr]
  exact hk' _ _ (hK w' h2)
theorem wpOp_insertK {i : Nat} (hi : ops[i]? = some o) (hg : o.guard = none) (m x v : Operand) (ho : o.op = .insert t m x v) (ht : P.underlying t = some (.map k e)) (hk : P.underlying k = some .string)
    (h : St w0 w (mapK b M * F)) (hm : a.eval m = .map (some b)) (hx : a.eval x = .string s) (hv : a.eval v = u) (hM : M s = none) {K : Act → World → Prop}
    (hK : ∀ w', St w0 w' (mapK b (putK M s u) * F) → K (a.put o.dst undef) w') : wpOp P ops Q i K a w := by
  refine wpOp_step hi fun K' hK' => ?_
  have hw : Region.wanted o (yielded ops a.tmps) = true := by simp [Region.wanted, hg]
  rw [if_pos hw]
  obtain ⟨w', hr, h2⟩ := run_putK (v := u) ht hk h hM
  unfold Oper.wp execOp
  simp only [ho, Sem.run_bind, Sem.run_pure, Result.andThen_ok, hm, hx, hv, hr]
  exact hK' _ _ (hK w' h2)
theorem exec_lookupK (m x : Operand) (ho : o.op = .lookup t m x true) (ht : P.underlying t = some (.map k e)) (hk : P.underlying k = some .string)
    (h : St w0 w (mapK b M * F)) (hm : a.eval m = .map (some b)) (hx : a.eval x = .string s) {z : Value} (hz : (zeroValue e).run P w = .ok z w) :
    (execOp a.eval o).run P w = .ok (.value (.tuple #[(M s).getD z, .bool (M s).isSome])) w := by
  unfold execOp
  simp only [ho, Sem.run_bind, Sem.run_pure, Result.andThen_ok, hm, hx, run_getK ht hk h hz s]
end
end Go.Mz
namespace Go.Proofs.YtknelobnbpboiaaGreatDoor
open Go.RowKit Go.Mz
set_option linter.unusedVariables false
set_option linter.unusedSimpArgs false
set_option maxRecDepth 100000

set_option maxHeartbeats 4000000 in
theorem put_any {w0 w : World} {F : SProp} (h : St w0 w F) (f : Nat) : Calls Tryz.prog 39 #[.func (.func f) #[] #[]] w fun e w' => (∃ x, e = .returned (.func (.func 60) #[] #[.pointer (some x)])) ∧ St w0 w' F := by
  have H := Lib.hid h; clear h
  go_enter Tryz.func39, Tryz.ntmps39
  go_wp2
  go_ret
  exact ⟨⟨_, rfl⟩, H.out.drop_alloc _⟩

def kImage : ByteArray := ⟨#[105, 109, 97, 103, 101]⟩
def kFill : ByteArray := ⟨#[102, 105, 108, 108]⟩
def kRow : ByteArray := ⟨#[114, 111, 119]⟩
def kDecode : ByteArray := ⟨#[100, 101, 99, 111, 100, 101]⟩
def kLow : ByteArray := ⟨#[108, 111, 119]⟩
def ordV (n : Int) (f : Nat) : Value := .agg #[.int .i64 n, .func (.func f) #[] #[]]
/-- The words that stand with numbers alone, as far as they are wanted. -/
structure OrdM (M : ByteArray → Option Value) : Prop where
  image : M ⟨#[105, 109, 97, 103, 101]⟩ = some (ordV 4 30)
  fill : M ⟨#[102, 105, 108, 108]⟩ = some (ordV 1 32)
  row : M ⟨#[114, 111, 119]⟩ = some (ordV 2 33)
  decode : M ⟨#[100, 101, 99, 111, 100, 101]⟩ = some (ordV 0 35)

set_option maxHeartbeats 20000000 in
theorem orders_any {w0 w : World} {F : SProp} (h : St w0 w F) : Calls Tryz.prog 14 #[] w fun e w' => ∃ m M, e = .returned (.map (some m)) ∧ OrdM M ∧ St w0 w' (mapK m M * F) := by
  have hmm := @run_makeMap_plain Tryz.prog
  have H := Lib.hid (mapK_new h)
  clear h
  go_enter Tryz.func14, Tryz.ntmps14
  go_wp2_with (first
    | (go_at_call 39; refine (put_any (H.out.perm rfl) _).mono ?_; rintro e w' ⟨⟨v, rfl⟩, h'⟩; clear H; have H := Lib.hid h'; clear h')
    | (refine wpList_insertK rfl _ _ _ rfl Tryz.underlying59 Tryz.underlying9 H.out rfl rfl rfl (by repeat (first | rfl | refine putK_ne (by decide) ?_)) ?_; intro w' h'; clear H; have H := Lib.hid h'; clear h'))
  go_ret
  refine ⟨_, _, rfl, ⟨?_, ?_, ?_, ?_⟩, H.out⟩
  all_goals repeat (first | exact putK_at _ _ _ | refine putK_ne (by decide) ?_)
#print axioms orders_any
end Go.Proofs.YtknelobnbpboiaaGreatDoor
