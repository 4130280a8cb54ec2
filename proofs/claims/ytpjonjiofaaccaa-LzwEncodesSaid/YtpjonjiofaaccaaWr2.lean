/-
  The writer of bits, more: a text's bits, filling up, what was written; bytes turned round.
-/
import Derived.Test.YtpjonjiofaaccaaWr
import Derived.Deep.LoopGhost
namespace Go.Proofs.Ytpjonjiofaaccaa
open Go.RowKit Go.Mz
set_option linter.unusedVariables false
set_option linter.unusedSimpArgs false

theorem write_all {w0 w : World} {B : Nat} {l : List Nat} {low : Bool} {F : SProp} (h : St w0 w (wrt B l low * F)) (v : Nat) (n : Int) (hv2 : v < 4294967296) (hm : l.length + 32 ≤ 100000000000000) :
    Calls Try.prog 25 #[.pointer (some ⟨B, 0, none⟩), .int .u32 v, .int .i64 n] w fun e w' => e = .returned (.int .i64 (wrE v n)) ∧ St w0 w' (wrt B (l ++ wrL low v n) low * F) := by
  by_cases hn : n < 0 ∨ 32 < n
  · have e : wrE v n = 1 := by unfold wrE; rw [if_pos hn]
    have e2 : wrL low v n = [] := by unfold wrL; rw [if_neg (by omega)]
    rw [e, e2, List.append_nil]
    exact (write_bad _ _ _ hn).mono fun _ _ ⟨he, hw⟩ => ⟨he, hw ▸ h⟩
  · obtain ⟨k, rfl⟩ := Int.eq_ofNat_of_zero_le (show 0 ≤ n by omega)
    by_cases hv : (k : Int) < 32 ∧ v / 2 ^ (k : Int).toNat ≠ 0
    · have e : wrE v k = 7 := by unfold wrE; rw [if_neg hn, if_pos hv]
      have e2 : wrL low v k = [] := by unfold wrL; rw [if_neg (by omega)]
      rw [e, e2, List.append_nil]
      exact (write_over _ _ _ (by omega) (by simpa using hv.2)).mono fun _ _ ⟨he, hw⟩ => ⟨he, hw ▸ h⟩
    · have e : wrE v k = 0 := by unfold wrE; rw [if_neg hn, if_neg hv]
      have e2 : wrL low v k = wrN low v k := by unfold wrL; rw [if_pos e, Int.toNat_natCast]
      rw [e, e2]
      exact write_ok h v k (by omega) (fun hk => by
        have := fun h => hv ⟨by omega, h⟩
        simpa using this) hv2 hm


theorem bytes_any {w0 w : World} {B : Nat} {l : List Nat} {low : Bool} {F : SProp} (h : St w0 w (wrt B l low * F)) :
    Calls Try.prog 27 #[.pointer (some ⟨B, 0, none⟩)] w fun e w' => ∃ v, e = .returned v ∧ St w0 w' (own 5 1 v ((l.length + 7) / 8) ((bytesB low l).map bv) * (wrt B l low * F)) := by
  obtain ⟨hb, hm, v, h⟩ := wrt_open h
  have c0 : w.cell? ⟨B, 0, none⟩ = some v := h.cell 0 rfl
  obtain ⟨a, cap, rfl⟩ := h.right.reads.sub
  have T := elemBytes
  have c0' : (w.alloc (.cells #[] 5)).cell? ⟨B, 0, none⟩ = some (.slice a ((l.length + 7) / 8) cap) := by
    rw [World.cell?_alloc_lt _ _ _ h.lt]; exact c0
  have H := Lib.hid h; clear h
  go_enter Try.func27, Try.ntmps27
  go_wp2_with (at_builtin; apply stop)
  refine on (wpList_append_sep T rfl _ _ rfl rfl (St.own_blk (e := 5) (size := 1) (n := 0) (cap := 0) (xs := []) (H.out.alloc (.cells #[] 5)) (Nat.le_refl _) (Nat.zero_le _) rfl rfl) rfl ((H.out.drop_alloc _).right.reads) (bv_oneCell _) ?_ ?_ ?_)
  · unfold maxLen; omega
  · omega
  intro v' w3 h4 _
  simp only [Nat.zero_add, List.nil_append] at h4
  obtain ⟨a', cap', rfl⟩ := h4.reads.sub
  have H4 := Lib.hid h4; clear h4
  go_wp2_with fail
  go_ret
  refine ⟨_, rfl, ?_⟩
  have := wrt_shut hb hm (F := own 5 1 (.slice a' ((l.length + 7) / 8) cap') ((l.length + 7) / 8) ((bytesB low l).map bv) * F) (H4.out.perm (by ac_rfl))
  exact this.perm (by ac_rfl)



end Go.Proofs.Ytpjonjiofaaccaa