/-
  Layer 6: nil books; few words; places.
-/
import Derived.Test.YtdlmmkgggghlcaaHufOI
import Derived.Test.YtdlmmkgggghlcaaHufDI
import Derived.Test.YtdlmmkgggghlcaaHufC
namespace Go.Proofs.Ytdlmmkgggghlcaa
open Go.RowKit Go.Mz
set_option linter.unusedVariables false
set_option linter.unusedSimpArgs false
set_option maxRecDepth 100000

theorem hread_nilI {w : World} (r : Value) : Calls Try.prog 12 #[.pointer none, r] w fun e w' => e = .returned (.tuple #[.int .i64 0, .int .i64 6]) ∧ w' = w := by
  go_enter Try.func12, Try.ntmps12
  go_wp2_with fail
  go_ret2
  exact ⟨rfl, rfl⟩
theorem hlen_nilI {w : World} : Calls Try.prog 16 #[.pointer none] w fun e w' => e = .returned (.int .i64 0) ∧ w' = w := by
  go_enter Try.func16, Try.ntmps16
  go_wp2_with fail
  go_ret
  exact ⟨rfl, rfl⟩
theorem hword_nilI {w : World} (i : Int) : Calls Try.prog 14 #[.pointer none, .int .i64 i] w fun e w' => e = .returned (.tuple #[.string ⟨#[]⟩, .int .i64 12]) ∧ w' = w := by
  by_cases hi : i < 0
  · go_enter Try.func14, Try.ntmps14
    go_wp2_with fail
    go_ret2
    exact ⟨rfl, rfl⟩
  · have hi2 : 0 ≤ i := by omega
    go_enter Try.func14, Try.ntmps14
    go_wp2_with fail
    refine hlen_nilI.mono ?_
    rintro e w' ⟨rfl, rfl⟩
    go_wp2_with fail
    go_ret2
    exact ⟨rfl, rfl⟩
theorem hwrite_nilI {w : World} (p : Value) (i : Int) : Calls Try.prog 17 #[.pointer none, p, .int .i64 i] w fun e w' => e = .returned (.int .i64 12) ∧ w' = w := by
  go_enter Try.func17, Try.ntmps17
  go_wp2_with fail
  refine (hword_nilI i).mono ?_
  rintro e w' ⟨rfl, rfl⟩
  go_wp2_with fail
  go_ret
  exact ⟨rfl, rfl⟩

def fewB (ws : List (List UInt8)) : Bool := ws.all (fun t => decide (t.length ≤ 60)) && decide (ws.length ≤ 60)
set_option maxHeartbeats 4000000 in
theorem few_any {w : World} {ws : List (List UInt8)} {v : Value} (hr : Reads w 1 v ws.length (ws.map svB)) :
    Calls Try.prog 11 #[v] w fun e w' => e = .returned (.bool (fewB ws)) ∧ w' = w := by
  obtain ⟨a1, c1, rfl⟩ := hr.sub
  have hm := hr.len_le
  unfold maxLen at hm
  have HRD := Lib.hid hr; clear hr
  have hend : (∀ t ∈ ws, t.length ≤ 60) → fewB ws = decide ((ws.length : Int) ≤ 60) := fun h => by
    have : ws.all (fun t => decide (t.length ≤ 60)) = true := List.all_eq_true.2 fun t ht => by simpa using h t ht
    rw [fewB, this, Bool.true_and]; congr 1; simp; omega
  have HEND := Lib.hid hend; clear hend
  go_enter Try.func11, Try.ntmps11
  go_wp2_with fail
  go_loop [7] (fun i => ∃ k : Nat, k ≤ ws.length ∧ i = .int .i64 k ∧ ∀ t ∈ ws.take k, t.length ≤ 60) (fun i => ws.length - (intOf i).toNat)
  case atStart => exact ⟨0, Nat.zero_le _, rfl, by simp⟩
  case round =>
    obtain ⟨k, hk, rfl, hall⟩ := hrel
    by_cases hkn : k < ws.length
    · obtain ⟨g, o, rfl, e⟩ := HRD.out.at_ hkn
      have hx := List.getElem?_eq_getElem hkn
      have HALL := Lib.hid (show (ws[k]).length ≤ 60 → ∀ t ∈ ws.take (k + 1), t.length ≤ 60 from fun h t ht => by
        rw [List.take_add_one, hx] at ht
        rcases List.mem_append.1 ht with ht | ht
        · exact hall t ht
        · rw [Option.toList_some, List.mem_singleton] at ht
          rw [ht]; exact h)
      have HBAD := Lib.hid (show ¬ (ws[k]).length ≤ 60 → fewB ws = false from fun h => by
        rw [fewB]
        have : ws.all (fun t => decide (t.length ≤ 60)) = false := List.all_eq_false.2 ⟨ws[k], List.getElem_mem _, by simpa using h⟩
        rw [this]; rfl)
      rw [List.getElem?_map, hx] at e
      have hsz : (ByteArray.mk (ws[k]).toArray).size = (ws[k]).length := rfl
      simp only [Option.map_some, svB] at e
      clear hx hall
      generalize ws[k] = t at *
      generalize ByteArray.mk t.toArray = tb at *
      have hk2 : (k : Int) < ws.length := by omega
      by_cases ht : t.length ≤ 60
      · have HA := Lib.hid (HALL.out ht)
        have ht2 : ¬ 60 < (t.length : Int) := by omega
        clear ht HBAD HALL
        go_wp2_with fail
        exact ⟨⟨k + 1, by omega, by go_num, HA.out⟩, by simp [intOf]; omega⟩
      · have HA := Lib.hid (HBAD.out ht)
        have ht2 : 60 < (t.length : Int) := by omega
        clear ht HBAD HALL
        go_wp2_with fail
        go_ret
        exact ⟨by rw [HA.out]; rfl, rfl⟩
    · obtain rfl : k = ws.length := by omega
      rw [List.take_length] at hall
      have HE := Lib.hid (HEND.out hall); clear hall
      go_wp2_with fail
      go_ret
      exact ⟨by rw [HE.out]; rfl, rfl⟩
#print axioms few_any

theorem reads_int1 (w : World) (x : Int) : Reads (w.alloc (.cells #[.int .i64 x] 3)) 1 (.slice (some ⟨w.heap.size, 0, none⟩) 1 1) 1 ([x].map iv) :=
  (St.own_blk (e := 3) (size := 1) (n := 1) (cap := 1) (xs := [x].map iv) ((St.init w).alloc _) (Nat.le_refl _) (by decide) rfl rfl).reads
def upto (n : Nat) : List Int := (List.range n).map fun (i : Nat) => (i : Int)
theorem length_upto (n : Nat) : (upto n).length = n := by simp [upto]
theorem upto_succ (n : Nat) : upto (n + 1) = upto n ++ [(n : Int)] := by simp [upto, List.range_succ]
set_option maxHeartbeats 4000000 in
theorem places_any {w0 w : World} {F : SProp} (h : St w0 w F) (n : Nat) (hn : n ≤ 100000) :
    Calls Try.prog 19 #[.int .i64 n] w fun e w' => ∃ v, e = .returned v ∧ St w0 w' (own 3 1 v n ((upto n).map iv) * F) := by
  have T := elemI
  have H := Lib.hid (St.own_nil 3 1 h); clear h
  go_enter Try.func19, Try.ntmps19
  go_wp2_with fail
  go_loopw [3, 6] (fun vo vi wr => ∃ k : Nat, k ≤ n ∧ vi = .int .i64 k ∧ St w0 wr (own 3 1 vo k ((upto k).map iv) * F)) (fun _ vi _ => n - (intOf vi).toNat)
  case atStart => exact ⟨0, by omega, rfl, H.out⟩
  case round =>
    clear H
    obtain ⟨k, hk, rfl, hst⟩ := hrel
    obtain ⟨ao, co, rfl⟩ := hst.reads.sub
    have HST := Lib.hid hst; clear hst
    by_cases hkn : k < n
    · have hkn2 : (k : Int) < n := by omega
      go_wp2_with (at_builtin; apply stop)
      refine on (wpList_append_sep T rfl _ _ rfl rfl (HST.out.drop_alloc (.cells #[.int .i64 (k : Int)] 3)) rfl (reads_int1 wr k) (iv_oneCell [(k : Int)]) ?_ ?_ ?_)
      · unfold maxLen; omega
      · omega
      intro v' w7 h9 _
      rw [show (upto k).map iv ++ [(k : Int)].map iv = (upto (k + 1)).map iv by rw [upto_succ, List.map_append]] at h9
      obtain ⟨aN, cN, rfl⟩ := h9.reads.sub
      have H9 := Lib.hid h9; clear h9
      go_wp2_with fail
      exact ⟨⟨k + 1, by omega, by go_num, H9.out⟩, by simp [intOf]; omega⟩
    · obtain rfl : k = n := by omega
      go_wp2_with fail
      go_ret
      exact ⟨_, rfl, HST.out⟩
#print axioms places_any
end Go.Proofs.Ytdlmmkgggghlcaa
