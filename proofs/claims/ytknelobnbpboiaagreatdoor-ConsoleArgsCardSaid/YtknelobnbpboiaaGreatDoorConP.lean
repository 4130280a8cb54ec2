/-
  Layer 28 (console): Run, over what the lines do.
-/
import Derived.Test.YtknelobnbpboiaaGreatDoorConO
import Derived.Test.YtknelobnbpboiaaGreatDoorConB
namespace Go.Proofs.YtknelobnbpboiaaGreatDoor
open Go.RowKit Go.Mz
set_option linter.unusedVariables false
set_option linter.unusedSimpArgs false
set_option maxRecDepth 100000
attribute [local go_sem] Oper.semAt_some

set_option maxHeartbeats 8000000 in
theorem run_gen {w0 w : World} {F : SProp} (Ses : Nat → Nat → SProp) (out : ByteArray) (h : St w0 w F) (t : ByteArray) (ht : t.size ≤ 16384) (ls : List ByteArray) (rest : Nat → ByteArray) (L : LinesOf ls rest) (hsz : ∀ k, (rest k).size ≤ 20000) (hr0 : rest 0 = t)
    (hI0 : ∀ b W R, St w0 W (blk b (sesO (.slice none 0 0) false (.slice none 0 0) (.pointer none) (.slice none 0 0)) * R) → St w0 W (Ses b 0 * R))
    (hline : ∀ b k x W R, ls[k]? = some x → St w0 W (Ses b k * (F * R)) → Calls Tryz.prog 7 #[.pointer (some ⟨b, 0, none⟩), .string x] W fun e W' => e = .returned (.tuple #[]) ∧ St w0 W' (Ses b (k + 1) * (F * R)))
    (hstr : ∀ b W R, St w0 W (Ses b ls.length * R) → Calls Tryz.prog 8 #[.pointer (some ⟨b, 16, none⟩)] W fun e W' => e = .returned (.string out) ∧ St w0 W' R) :
    Calls Tryz.prog 5 #[.string t] w fun e w' => e = .returned (.tuple #[.string out, .int .i64 0]) ∧ St w0 w' F := by
  have h1 := h.alloc (sesO (.slice none 0 0) false (.slice none 0 0) (.pointer none) (.slice none 0 0))
  have h2 := h1.alloc (.cells #[.pointer (some ⟨w.heap.size, 0, none⟩)] 29)
  rw [World.size_alloc] at h2
  have H2 := Lib.hid h2
  have HS := Lib.hid hstr; have HLI := Lib.hid hline; have HI := Lib.hid hI0; have HL := Lib.hid L; have HZ := Lib.hid hsz
  clear hstr hline hI0 L hsz h1 h2 h
  refine (callsIn_wide (n := 5)).1 ?_
  refine callsIn_of_wp_marks Tryz.func5 rfl trivial ?_ rfl
  simp only [Tryz.ntmps5, List.size_toArray, List.length_cons, List.length_nil, Nat.reduceAdd, Nat.reduceSub, Array.replicate_succ, Array.replicate_zero, List.push_toArray, List.append_toArray, List.nil_append, List.cons_append]
  obtain ⟨b, hb⟩ : ∃ b, w.heap.size = b := ⟨_, rfl⟩
  rw [hb] at H2
  gi_wp2_with (refine ⟨trivial, ?_⟩; gi_at_call 6; refine (callsIn_wide.2 (SplitSeq_any H2.out t)).mono ?_; rintro e w1 ⟨p, s, v, rfl, h3⟩; have H3 := Lib.hid h3; clear h3 H2)
  have hq := seq_split (5 - 1) p s v ls rest HL.out HZ.out
  rw [hr0] at hq
  have h4 : St w0 w1 ((Ses b 0 * (blk (b + 1) (.cells #[.pointer (some ⟨b, 0, none⟩)] 29) * F)) * (seqMem p s v t * emp)) := by
    refine (HI.out b w1 (blk (b + 1) (.cells #[.pointer (some ⟨b, 0, none⟩)] 29) * (F * (seqMem p s v t * emp))) (H3.out.perm ?_)).perm (by ac_rfl)
    rw [star_comm (seqMem p s v t) emp, emp_star]
    ac_rfl
  refine wpIn_rangeFuncS (F := Fence.wide) (n := 5) (w0 := w0) (G := emp) rfl (by omega) (gf := 16) (lb := #[.pointer (some ⟨p, 0, none⟩), .pointer (some ⟨s, 0, none⟩), .pointer (some ⟨v, 0, none⟩)]) rfl trivial (fun args w => enters_of Tryz.func16 (by kernel_rfl) rfl args w) hq (fun _ => rfl) (fun k => Ses b k * (blk (b + 1) (.cells #[.pointer (some ⟨b, 0, none⟩)] 29) * F)) h4 (fun x => { tmps := #[.string t, undef, .string ⟨#[]⟩, .int .i64 0, .pointer (some ⟨b + 1, 0, none⟩), .string x, .string t, .int .i64 t.size, .bool (decide ((16384 : Int) < (t.size : Int))), .agg #[.bool false, .int .i64 1, .bool false, .bool false], .agg #[.bool false, .bool false, .bool false, .int .i64 0, .int .i64 32768, .bool false, .int .i64 1, .bool false, .bool false, .bool false, .int .i64 1, .bool false, .bool false, .int .i64 0], .agg #[.slice none 0 0, .bool false, .bool false, .bool false, .int .i64 0, .int .i64 32768, .bool false, .int .i64 1, .bool false, .bool false, .bool false, .int .i64 1, .bool false, .bool false, .int .i64 0, .slice none 0 0, .pointer none, .slice none 0 0], .pointer (some ⟨b, 0, none⟩), .string t, .func (.func 16) #[] #[.pointer (some ⟨p, 0, none⟩), .pointer (some ⟨s, 0, none⟩), .pointer (some ⟨v, 0, none⟩)], .string x, undef, undef, undef, undef, undef, undef, undef], defers := [] }) ?assign ?body ?done
  case assign =>
    intro l x W K hK
    gi_wp2
    exact hK
  case body =>
    intro l k x W R hk hS
    have hS' : St w0 W (Ses b k * (blk (b + 1) (.cells #[.pointer (some ⟨b, 0, none⟩)] 29) * F) * R) := hS
    have c0 : W.cell? ⟨b + 1, 0, none⟩ = some (.pointer (some ⟨b, 0, none⟩)) := (hS'.perm (show _ = blk (b + 1) (.cells #[.pointer (some ⟨b, 0, none⟩)] 29) * (Ses b k * (F * R)) by ac_rfl)).cell 0 rfl
    have HC := Lib.hid (HLI.out b k x W (blk (b + 1) (.cells #[.pointer (some ⟨b, 0, none⟩)] 29) * R) hk (hS'.perm (by ac_rfl)))
    clear hS hS' h4 hq
    gi_wp2_with (refine ⟨trivial, ?_⟩; gi_at_call 7; refine (CallsIn.inRound l (callsIn_wide.2 HC.out)).mono ?_; rintro e W2 ⟨rfl, h5⟩; have H5 := Lib.hid h5; clear h5 HC)
    exact H5.out.perm (by ac_rfl)
  case done =>
    intro D W R hS
    have hS' : St w0 W (blk D (.deferred (some [])) * (Ses b ls.length * (blk (b + 1) (.cells #[.pointer (some ⟨b, 0, none⟩)] 29) * F) * R)) := hS
    have c0 : W.cell? ⟨b + 1, 0, none⟩ = some (.pointer (some ⟨b, 0, none⟩)) := (hS'.perm (show _ = blk (b + 1) (.cells #[.pointer (some ⟨b, 0, none⟩)] 29) * (blk D (.deferred (some [])) * (Ses b ls.length * (F * R))) by ac_rfl)).cell 0 rfl
    have HC := Lib.hid (HS.out b W (blk D (.deferred (some [])) * (blk (b + 1) (.cells #[.pointer (some ⟨b, 0, none⟩)] 29) * (F * R))) (hS'.perm (by ac_rfl)))
    clear hS hS' h4 hq
    gi_wp2_with (refine ⟨trivial, ?_⟩; gi_at_call 8; refine (callsIn_wide.2 HC.out).mono ?_; rintro e W2 ⟨rfl, h5⟩; have H5 := Lib.hid h5; clear h5 HC)
    refine ⟨by simp, .inl ⟨_, _, rfl, run_takeDeferred H5.out.at_, ?_⟩⟩
    refine ⟨_, results_tmp2 rfl _ _ _, rfl, ?_⟩
    exact (H5.out.put (o' := .deferred none)).right.right.left
#print axioms run_gen
theorem run_long {w0 w : World} {F : SProp} (h : St w0 w F) (t : ByteArray) (ht : 16384 < t.size) (ht2 : t.size ≤ 20000) :
    Calls Tryz.prog 5 #[.string t] w fun e w' => e = .returned (.tuple #[.string ⟨#[]⟩, .int .i64 5]) ∧ St w0 w' F := by
  have H := Lib.hid h
  clear h
  refine (callsIn_wide (n := 5)).1 ?_
  refine callsIn_of_wp_marks Tryz.func5 rfl trivial ?_ rfl
  simp only [Tryz.ntmps5, List.size_toArray, List.length_cons, List.length_nil, Nat.reduceAdd, Nat.reduceSub, Array.replicate_succ, Array.replicate_zero, List.push_toArray, List.append_toArray, List.nil_append, List.cons_append]
  gi_wp2
  exact ⟨_, results_tmp2 rfl _ _ _, rfl, H.out⟩
#print axioms run_long
end Go.Proofs.YtknelobnbpboiaaGreatDoor
