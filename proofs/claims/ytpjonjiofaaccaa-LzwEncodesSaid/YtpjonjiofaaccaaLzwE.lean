/-
  Layer 5, the document's answer: the beginning's table, the width.
-/
import Derived.Test.YtpjonjiofaaccaaLzwM
import Derived.Test.YtpjonjiofaaccaaSep2
import Derived.Test.YtpjonjiofaaccaaSepL
import Derived.Test.YtpjonjiofaaccaaRef02b
import Derived.Deep.LoopGhost
import Derived.Deep.RegionWith
import Derived.Deep.RegionHeld3
import Derived.Deep.Cut
import Derived.Deep.CutRange
namespace Go.Proofs.Ytpjonjiofaaccaa
open Go.RowKit Go.Mz
set_option linter.unusedVariables false
set_option linter.unusedSimpArgs false

def sv (t : Txt) : Value := .string ⟨t.toArray⟩
theorem elemStrs : ElemT Try.prog 44 9 1 16 (.string ⟨#[]⟩) :=
  ⟨Try.underlying44, info_parts (by kernel_rfl), rfl, by decide⟩
theorem sv_oneCell (l : List Txt) : ∀ u ∈ l.map sv, u.oneCell' = true := by
  intro u hu
  obtain ⟨c, _, rfl⟩ := List.mem_map.1 hu
  rfl

set_option maxRecDepth 100000
set_option maxHeartbeats 4000000
theorem rwidth_any {w : World} {i : Int} (k : Nat) (hi : i = k) (old : Bool) (hk : k ≤ 100000) :
    Calls Try.prog 34 #[.int .i64 i, .bool old] w fun e w' => e = .returned (.int .i64 (widthL k old)) ∧ w = w' := by
  subst hi
  have hs : IntKind.i64.wrap ((k : Int) + 1) = k + 1 := IntWalk.i64_in _ (by omega)
  cases old
  · have HW := Lib.hid (show widthL k false = if k + 1 < 512 then 9 else if k + 1 < 1024 then 10 else if k + 1 < 2048 then 11 else 12 from rfl)
    go_enter Try.func34, Try.ntmps34
    by_cases h1 : (k : Int) + 1 < 512
    · go_wp2_with fail
      go_ret
      exact ⟨by rw [HW.out, if_pos (by omega)]; rfl, rfl⟩
    by_cases h2 : (k : Int) + 1 < 1024
    · go_wp2_with fail
      go_ret
      exact ⟨by rw [HW.out, if_neg (by omega), if_pos (by omega)]; rfl, rfl⟩
    by_cases h3 : (k : Int) + 1 < 2048
    · go_wp2_with fail
      go_ret
      exact ⟨by rw [HW.out, if_neg (by omega), if_neg (by omega), if_pos (by omega)]; rfl, rfl⟩
    · go_wp2_with fail
      go_ret
      exact ⟨by rw [HW.out, if_neg (by omega), if_neg (by omega), if_neg (by omega)]; rfl, rfl⟩
  · have HW := Lib.hid (show widthL k true = if k < 512 then 9 else if k < 1024 then 10 else if k < 2048 then 11 else 12 from rfl)
    go_enter Try.func34, Try.ntmps34
    by_cases h1 : (k : Int) < 512
    · go_wp2_with fail
      go_ret
      exact ⟨by rw [HW.out, if_pos (by omega)]; rfl, rfl⟩
    by_cases h2 : (k : Int) < 1024
    · go_wp2_with fail
      go_ret
      exact ⟨by rw [HW.out, if_neg (by omega), if_pos (by omega)]; rfl, rfl⟩
    by_cases h3 : (k : Int) < 2048
    · go_wp2_with fail
      go_ret
      exact ⟨by rw [HW.out, if_neg (by omega), if_neg (by omega), if_pos (by omega)]; rfl, rfl⟩
    · go_wp2_with fail
      go_ret
      exact ⟨by rw [HW.out, if_neg (by omega), if_neg (by omega), if_neg (by omega)]; rfl, rfl⟩

theorem rstart_any {w0 w : World} {F : SProp} (h : St w0 w F) :
    Calls Try.prog 20 #[] w fun e w' => ∃ v, e = .returned v ∧ St w0 w' (own 9 1 v start0.length (start0.map sv) * F) := by
  have H := Lib.hid h; clear h
  have T := elemStrs
  go_enter Try.func20, Try.ntmps20
  go_wp2_with fail
  go_loopw [2, 1] (fun i v wr => ∃ k : Nat, k ≤ 258 ∧ i = .int .i64 k ∧ St w0 wr (own 9 1 v k (((List.range k).map fun i => [UInt8.ofNat i]).map sv) * F)) (fun i _ _ => 258 - (intOf i).toNat)
  case atStart => exact ⟨0, by omega, rfl, by simpa using St.own_nil _ _ H.out⟩
  case round =>
    obtain ⟨k, hk, rfl, hst⟩ := hrel
    obtain ⟨a, cap, rfl⟩ := hst.reads.sub
    have HS := Lib.hid hst; clear hst
    by_cases hkn : k < 258
    · have hkz : (k : Int) < 258 := by omega
      have hw8 : IntKind.u8.wrap (k : Int) = ((UInt8.ofNat k).toNat : Int) := by rw [IntKind.wrap_u8']; simp
      generalize hd : UInt8.ofNat k = d at *
      have HD := Lib.hid hd; clear hd
      go_wp2_with (with_reducible (refine stop_conv 22 9 rfl ?_))
      refine on (wpList_b2s Try.underlying22 Try.underlying5 Try.underlying9 rfl rfl (n := 1) (reads_one wr 5 d rfl) ?_)
      go_wp2_with (at_builtin; apply stop)
      have h1 := (HS.out.drop_alloc (.cells #[.int .u8 (d.toNat : Int)] 5)).lit #[.string ⟨[d].toArray⟩] 9 1 rfl (by decide)
      refine on (wpList_append_sep T rfl _ _ rfl rfl h1.right (x := .slice (some ⟨wr.heap.size + 1, 0, none⟩) 1 1) rfl (m := 1) (news := [[d]].map sv) (by have := h1.reads; simpa [sv] using this) (sv_oneCell [[d]]) ?_ ?_ ?_)
      · unfold maxLen; omega
      · omega
      intro v' w7 h7 _
      obtain ⟨a7, c7, rfl⟩ := h7.reads.sub
      have H7 := Lib.hid h7; clear h7 h1
      go_wp2_with fail
      refine ⟨⟨k + 1, by omega, by go_num, ?_⟩, by simp [intOf]; omega⟩
      have := H7.out
      simpa [List.range_succ, HD.out, sv] using this
    · obtain rfl : k = 258 := by omega
      go_wp2_with fail
      go_ret
      exact ⟨_, rfl, by have := HS.out; simpa [start0] using this⟩
#print axioms rstart_any
end Go.Proofs.Ytpjonjiofaaccaa
