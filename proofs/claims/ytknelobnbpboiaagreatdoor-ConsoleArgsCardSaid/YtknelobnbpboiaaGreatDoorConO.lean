/-
  Layer 28 (console): strings.SplitSeq at line ends, as an iterator in pieces of memory.
-/
import Derived.Test.YtknelobnbpboiaaGreatDoorRfs
import Derived.Test.YtknelobnbpboiaaGreatDoorChecked
import Derived.Test.YtknelobnbpboiaaGreatDoorFld
import Derived.RangeFuncNested
import Derived.RangeFuncBound
import Derived.RangeFuncCalls
import Derived.RangeFuncLeaves
import Derived.Shelf.Abstract
import Derived.Shelf.RegionOpen
import Derived.WalkKit
import Derived.OwnWalkIn
import Derived.TacticsInMore
import Derived.LoopNIn
import Derived.LoopIn
namespace Go.Proofs.YtknelobnbpboiaaGreatDoor
open Go.RowKit Go.Mz
set_option linter.unusedVariables false
set_option linter.unusedSimpArgs false
set_option maxRecDepth 100000
attribute [local go_sem] Oper.semAt_some

/-- The lines of a text, and what is left of it behind k of them. -/
structure LinesOf (ls : List ByteArray) (rest : Nat → ByteArray) : Prop where
  ne : 0 < ls.length
  hit : ∀ k (hk : k + 1 < ls.length), ∃ i : Nat, Lib.indexByte (rest k).data.toList 10 = (i : Int) ∧ i + 1 ≤ (rest k).size ∧ (rest k).extract 0 i = ls[k] ∧ (rest k).extract (i + 1) (rest k).size = rest (k + 1)
  miss : Lib.indexByte (rest (ls.length - 1)).data.toList 10 = -1
  last : ls[ls.length - 1]? = some (rest (ls.length - 1))
def seqMem (p s v : Nat) (t : ByteArray) : SProp := blk s (.cells #[.string t] 9) * (blk p (.cells #[.string ⟨#[10]⟩] 9) * blk v (.cells #[.int .i64 0] 3))
def lenAt (s : Nat) (w : World) : Nat := match w.cell? ⟨s, 0, none⟩ with
  | some (.string t) => t.size
  | _ => 0

set_option maxHeartbeats 4000000 in
theorem seq_split (n p s v : Nat) (ls : List ByteArray) (rest : Nat → ByteArray) (L : LinesOf ls rest) (hsz : ∀ k, (rest k).size ≤ 20000) :
    SeqS Fence.wide n Tryz.prog 16 #[.pointer (some ⟨p, 0, none⟩), .pointer (some ⟨s, 0, none⟩), .pointer (some ⟨v, 0, none⟩)] (fun l => #[.string l]) (seqMem p s v (rest 0)) ls := by
  intro l w0 J G W hY h0
  refine callsIn_of_wp Tryz.func16 rfl trivial ?_ rfl
  simp only [Tryz.ntmps16, List.size_toArray, List.length_cons, List.length_nil, Nat.reduceAdd, Nat.reduceSub, Array.replicate_succ, Array.replicate_zero, List.push_toArray, List.append_toArray, List.nil_append, List.cons_append]
  have hP : ∀ (w' : World) (A : SProp) (t : ByteArray), St w0 w' (A * (seqMem p s v t * G)) → w'.cell? ⟨p, 0, none⟩ = some (.string ⟨#[10]⟩) ∧ w'.cell? ⟨s, 0, none⟩ = some (.string t) ∧ w'.cell? ⟨v, 0, none⟩ = some (.int .i64 0) ∧ w'.frozen? ⟨s, 0, none⟩ = false := fun w' A t h => by
    have h1 := (h.right.perm (show _ = blk s (.cells #[.string t] 9) * (blk p (.cells #[.string ⟨#[10]⟩] 9) * (blk v (.cells #[.int .i64 0] 3) * G)) by unfold seqMem; ac_rfl))
    exact ⟨h1.right.cell 0 rfl, h1.cell 0 rfl, h1.right.right.cell 0 rfl, h1.free 0⟩
  have HP := Lib.hid hP
  have HY := Lib.hid hY
  have HL := Lib.hid L
  have HZ := Lib.hid hsz
  obtain ⟨c0, c1, c2, c3⟩ := HP.out _ _ _ h0
  have H0 := Lib.hid h0
  clear hP hY L hsz h0
  gi_wp2
  clear c0 c1 c2 c3
  gi_loopw [] (fun wr => ∃ k, k + 1 ≤ ls.length ∧ St w0 wr (J k * (seqMem p s v (rest k) * G))) (fun wr => lenAt s wr)
  case atStart => exact ⟨0, HL.out.ne, H0.out⟩
  case round =>
    obtain ⟨k, hk, h2⟩ := hrel
    obtain ⟨c0, c1, c2, c3⟩ := HP.out _ _ _ h2
    have hszk := HZ.out k
    by_cases hk2 : k + 1 = ls.length
    · have hx : ls[k]? = some (rest k) := by
        have := HL.out.last
        rw [show ls.length - 1 = k by omega] at this
        exact this
      have hi := Tryz.strings_Index_one (rest k) 10 wr
      rw [show Lib.indexByte (rest k).data.toList 10 = -1 by have := HL.out.miss; rw [show ls.length - 1 = k by omega] at this; exact this] at hi
      have HI := Lib.hid hi; clear hi
      obtain ⟨fn, tmps, assign, body, hy, hR⟩ := HY.out k (rest k) wr _ hx h2
      gi_wp2_with (refine ⟨trivial, fun h => (by cases h), ?_⟩; gi_at_call 18; refine (callsIn_wide.2 HI.out).mono ?_; rintro e w' ⟨rfl, rfl⟩)
      refine ⟨fun h => (by cases h), hR.mono ?_⟩
      rintro e W3 ⟨rfl, h3⟩
      have H3 := Lib.hid h3
      clear h3 c0 c1 c2 c3 h2
      gi_wp2
      go_end0
      exact ⟨⟨_, rfl⟩, _, by rw [← hk2]; exact H3.out⟩
    · obtain ⟨i, hi1, hi2, hi3, hi4⟩ := HL.out.hit k (by omega)
      have hx : ls[k]? = some ls[k] := List.getElem?_eq_getElem _
      have hi := Tryz.strings_Index_one (rest k) 10 wr
      rw [hi1] at hi
      have HI := Lib.hid hi; clear hi
      obtain ⟨fn, tmps, assign, body, hy, hR⟩ := HY.out k _ wr _ hx h2
      gi_wp2_with (refine ⟨trivial, fun h => (by cases h), ?_⟩; gi_at_call 18; refine (callsIn_wide.2 HI.out).mono ?_; rintro e w' ⟨rfl, rfl⟩)
      refine ⟨fun h => (by cases h), hR.mono ?_⟩
      rintro e W3 ⟨rfl, h3⟩
      obtain ⟨d0, d1, d2, d3⟩ := HP.out _ _ _ h3
      have H3 := Lib.hid h3
      have hlen : lenAt s w' = (rest k).size := by simp only [lenAt, c1]
      clear h3 c0 c1 c2 c3 h2
      gi_wp2
      have h4 := (H3.out.perm (show _ = blk s (.cells #[.string (rest k)] 9) * (J (k + 1) * (blk p (.cells #[.string ⟨#[10]⟩] 9) * (blk v (.cells #[.int .i64 0] 3) * G))) by unfold seqMem; ac_rfl)).set 0 (.string (rest (k + 1)))
      have h5 : St w0 (W3.setCell ⟨s, 0, none⟩ (.string (rest (k + 1)))) (blk s (.cells #[.string (rest (k + 1))] 9) * (J (k + 1) * (blk p (.cells #[.string ⟨#[10]⟩] 9) * (blk v (.cells #[.int .i64 0] 3) * G)))) := h4
      refine ⟨⟨k + 1, by omega, h5.perm (by unfold seqMem; ac_rfl)⟩, ?_⟩
      have e5 : lenAt s (W3.setCell ⟨s, 0, none⟩ (.string (rest (k + 1)))) = (rest (k + 1)).size := by
        have e6 : (W3.setCell ⟨s, 0, none⟩ (.string (rest (k + 1)))).cell? ⟨s, 0, none⟩ = some (.string (rest (k + 1))) := h5.cell 0 rfl
        simp only [lenAt, e6]
      rw [e5, hlen, ← hi4, ByteArray.size_extract]
      omega
#print axioms seq_split

theorem splitSeq_any {w0 w : World} {F : SProp} (h : St w0 w F) (t : ByteArray) :
    Calls Tryz.prog 9 #[.string t, .string ⟨#[10]⟩, .int .i64 0] w fun e w' => ∃ p s v, e = .returned (.func (.func 16) #[] #[.pointer (some ⟨p, 0, none⟩), .pointer (some ⟨s, 0, none⟩), .pointer (some ⟨v, 0, none⟩)]) ∧ St w0 w' (seqMem p s v t * F) := by
  have h1 := ((h.alloc (.cells #[.string t] 9)).alloc (.cells #[.string ⟨#[10]⟩] 9)).alloc (.cells #[.int .i64 0] 3)
  simp only [World.size_alloc] at h1
  have H1 := Lib.hid h1; clear h1 h
  go_enter Tryz.func9, Tryz.ntmps9
  go_wp2
  go_ret
  exact ⟨_, _, _, rfl, H1.out.perm (by unfold seqMem; ac_rfl)⟩
theorem SplitSeq_any {w0 w : World} {F : SProp} (h : St w0 w F) (t : ByteArray) :
    Calls Tryz.prog 6 #[.string t, .string ⟨#[10]⟩] w fun e w' => ∃ p s v, e = .returned (.func (.func 16) #[] #[.pointer (some ⟨p, 0, none⟩), .pointer (some ⟨s, 0, none⟩), .pointer (some ⟨v, 0, none⟩)]) ∧ St w0 w' (seqMem p s v t * F) := by
  have h1 := splitSeq_any h t
  have H1 := Lib.hid h1; clear h1 h
  go_enter Tryz.func6, Tryz.ntmps6
  go_wp2_with (go_at_call 9; refine H1.out.mono ?_; rintro e w1 ⟨p, s, v, rfl, h2⟩; have H2 := Lib.hid h2; clear h2 H1)
  go_ret
  exact ⟨_, _, _, rfl, H2.out⟩
#print axioms SplitSeq_any
end Go.Proofs.YtknelobnbpboiaaGreatDoor
