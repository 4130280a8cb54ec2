/-
  Layer 28 (console): a digit's number.
-/
import Derived.Test.YtknelobnbpboiaaGreatDoorSep
import Derived.Test.YtknelobnbpboiaaGreatDoorChecked
import Derived.Laws.RangeString
import Derived.Great.Walk
import Derived.Deep.CutRange
import Derived.MapKept
namespace Go.Proofs.YtknelobnbpboiaaGreatDoor
open Go.RowKit Go.Mz
set_option linter.unusedVariables false
set_option linter.unusedSimpArgs false
set_option maxRecDepth 100000

theorem next_digit (w : World) (c : UInt8) (K : Int) (hK : (c.toNat : Int) = K) (ha : c.toNat < 128) (ty : TypeId) :
    (Instr.next (.pointer (some ⟨w.heap.size, 0, none⟩)) true ty).run Tryz.prog (w.iter ⟨#[c]⟩ 0) = .ok (.tuple #[.bool true, .int .i64 0, .int .i32 K]) (w.iter ⟨#[c]⟩ 1) := by
  rw [← hK]
  exact run_next_ascii (P := Tryz.prog) w ⟨#[c]⟩ 0 ty (show 0 < 1 by decide) ha
theorem next_done (w : World) (c : UInt8) (ty : TypeId) :
    (Instr.next (.pointer (some ⟨w.heap.size, 0, none⟩)) true ty).run Tryz.prog (w.iter ⟨#[c]⟩ 1) = .ok (.tuple #[.bool false]) (w.iter ⟨#[c]⟩ 1) := run_next_end w ⟨#[c]⟩ 1 ty (show ¬ 1 < 1 by decide)

set_option maxHeartbeats 4000000 in
theorem number_48 {w0 w : World} {F : SProp} (h : St w0 w F) :
    Calls Tryz.prog 15 #[.string ⟨#[48]⟩] w fun e w' => e = .returned (.tuple #[.int .i64 0, .bool true]) ∧ St w0 w' F := by
  have HF := Lib.hid (h.drop_alloc (.stringIter ⟨#[48]⟩ 1))
  have hz0 := next_digit w 48 48 rfl (by decide)
  have hz1 := next_done w 48
  have hne : (⟨#[48]⟩ : ByteArray).toList.isEmpty = false := by decide +kernel
  clear h
  go_enter Tryz.func15, Tryz.ntmps15
  go_wp2
  go_loopw [4] (fun vn wr => (vn = .int .i64 0 ∧ wr = w.iter ⟨#[48]⟩ 0) ∨ (vn = .int .i64 0 ∧ wr = w.iter ⟨#[48]⟩ 1)) (fun _ wr => 1 - wr.iterPos w.heap.size)
  case atStart => exact .inl ⟨rfl, rfl⟩
  case round =>
    rcases hrel with ⟨rfl, rfl⟩ | ⟨rfl, rfl⟩
    · go_wp2
      go_roundw
      case rel => exact .inr (by simp)
      case measure => simp [World.iterPos, World.iter_heap]
    · go_wp2
      go_ret2
      exact ⟨rfl, HF.out⟩
#print axioms number_48

set_option maxHeartbeats 4000000 in
theorem number_49 {w0 w : World} {F : SProp} (h : St w0 w F) :
    Calls Tryz.prog 15 #[.string ⟨#[49]⟩] w fun e w' => e = .returned (.tuple #[.int .i64 1, .bool true]) ∧ St w0 w' F := by
  have HF := Lib.hid (h.drop_alloc (.stringIter ⟨#[49]⟩ 1))
  have hz0 := next_digit w 49 49 rfl (by decide)
  have hz1 := next_done w 49
  have hne : (⟨#[49]⟩ : ByteArray).toList.isEmpty = false := by decide +kernel
  clear h
  go_enter Tryz.func15, Tryz.ntmps15
  go_wp2
  go_loopw [4] (fun vn wr => (vn = .int .i64 0 ∧ wr = w.iter ⟨#[49]⟩ 0) ∨ (vn = .int .i64 1 ∧ wr = w.iter ⟨#[49]⟩ 1)) (fun _ wr => 1 - wr.iterPos w.heap.size)
  case atStart => exact .inl ⟨rfl, rfl⟩
  case round =>
    rcases hrel with ⟨rfl, rfl⟩ | ⟨rfl, rfl⟩
    · go_wp2
      go_roundw
      case rel => exact .inr (by simp)
      case measure => simp [World.iterPos, World.iter_heap]
    · go_wp2
      go_ret2
      exact ⟨rfl, HF.out⟩
#print axioms number_49

set_option maxHeartbeats 4000000 in
theorem number_50 {w0 w : World} {F : SProp} (h : St w0 w F) :
    Calls Tryz.prog 15 #[.string ⟨#[50]⟩] w fun e w' => e = .returned (.tuple #[.int .i64 2, .bool true]) ∧ St w0 w' F := by
  have HF := Lib.hid (h.drop_alloc (.stringIter ⟨#[50]⟩ 1))
  have hz0 := next_digit w 50 50 rfl (by decide)
  have hz1 := next_done w 50
  have hne : (⟨#[50]⟩ : ByteArray).toList.isEmpty = false := by decide +kernel
  clear h
  go_enter Tryz.func15, Tryz.ntmps15
  go_wp2
  go_loopw [4] (fun vn wr => (vn = .int .i64 0 ∧ wr = w.iter ⟨#[50]⟩ 0) ∨ (vn = .int .i64 2 ∧ wr = w.iter ⟨#[50]⟩ 1)) (fun _ wr => 1 - wr.iterPos w.heap.size)
  case atStart => exact .inl ⟨rfl, rfl⟩
  case round =>
    rcases hrel with ⟨rfl, rfl⟩ | ⟨rfl, rfl⟩
    · go_wp2
      go_roundw
      case rel => exact .inr (by simp)
      case measure => simp [World.iterPos, World.iter_heap]
    · go_wp2
      go_ret2
      exact ⟨rfl, HF.out⟩
#print axioms number_50

set_option maxHeartbeats 4000000 in
theorem number_55 {w0 w : World} {F : SProp} (h : St w0 w F) :
    Calls Tryz.prog 15 #[.string ⟨#[55]⟩] w fun e w' => e = .returned (.tuple #[.int .i64 7, .bool true]) ∧ St w0 w' F := by
  have HF := Lib.hid (h.drop_alloc (.stringIter ⟨#[55]⟩ 1))
  have hz0 := next_digit w 55 55 rfl (by decide)
  have hz1 := next_done w 55
  have hne : (⟨#[55]⟩ : ByteArray).toList.isEmpty = false := by decide +kernel
  clear h
  go_enter Tryz.func15, Tryz.ntmps15
  go_wp2
  go_loopw [4] (fun vn wr => (vn = .int .i64 0 ∧ wr = w.iter ⟨#[55]⟩ 0) ∨ (vn = .int .i64 7 ∧ wr = w.iter ⟨#[55]⟩ 1)) (fun _ wr => 1 - wr.iterPos w.heap.size)
  case atStart => exact .inl ⟨rfl, rfl⟩
  case round =>
    rcases hrel with ⟨rfl, rfl⟩ | ⟨rfl, rfl⟩
    · go_wp2
      go_roundw
      case rel => exact .inr (by simp)
      case measure => simp [World.iterPos, World.iter_heap]
    · go_wp2
      go_ret2
      exact ⟨rfl, HF.out⟩
#print axioms number_55

set_option maxHeartbeats 4000000 in
theorem number_56 {w0 w : World} {F : SProp} (h : St w0 w F) :
    Calls Tryz.prog 15 #[.string ⟨#[56]⟩] w fun e w' => e = .returned (.tuple #[.int .i64 8, .bool true]) ∧ St w0 w' F := by
  have HF := Lib.hid (h.drop_alloc (.stringIter ⟨#[56]⟩ 1))
  have hz0 := next_digit w 56 56 rfl (by decide)
  have hz1 := next_done w 56
  have hne : (⟨#[56]⟩ : ByteArray).toList.isEmpty = false := by decide +kernel
  clear h
  go_enter Tryz.func15, Tryz.ntmps15
  go_wp2
  go_loopw [4] (fun vn wr => (vn = .int .i64 0 ∧ wr = w.iter ⟨#[56]⟩ 0) ∨ (vn = .int .i64 8 ∧ wr = w.iter ⟨#[56]⟩ 1)) (fun _ wr => 1 - wr.iterPos w.heap.size)
  case atStart => exact .inl ⟨rfl, rfl⟩
  case round =>
    rcases hrel with ⟨rfl, rfl⟩ | ⟨rfl, rfl⟩
    · go_wp2
      go_roundw
      case rel => exact .inr (by simp)
      case measure => simp [World.iterPos, World.iter_heap]
    · go_wp2
      go_ret2
      exact ⟨rfl, HF.out⟩
#print axioms number_56
end Go.Proofs.YtknelobnbpboiaaGreatDoor
