/-
  Layer 6: the canonical words of any lengths, and whether they are full.
-/
import Derived.Test.YtdlmmkgggghlcaaHufV
import Derived.Test.YtdlmmkgggghlcaaHufR
import Derived.Test.YtdlmmkgggghlcaaStructs
namespace Go.Proofs.Ytdlmmkgggghlcaa.hcanon
open Go.RowKit Go.Mz
set_option linter.unusedVariables false
set_option linter.unusedSimpArgs false
set_option maxRecDepth 100000

/-- A slice of ints that came in. -/
theorem ints_in {H : Type} {enc : TypeId × Value → H} {w : World} {base : Nat} {spare : Nat → Bool} {held : Bool} {fuel : Nat} {a : Option Addr} {len cap : Nat} {x : DataW H × List MemPlace}
    (h : DataW.trod enc Try.prog w base spare held fuel 22 (Value.slice a len cap).cells.toList = some x) :
    ∃ l : List Int, l.length = len ∧ Reads w 1 (.slice a len cap) len (l.map iv) ∧ True := by
  rcases Deep.open_slice Try.underlying22 h with ⟨h0, _⟩ | ⟨b, l, c, m, n, D, Pl, hcs, _, hl, hm, hmm, _, hi⟩
  · simp [Value.cells] at h0
    obtain ⟨rfl, rfl, rfl⟩ := h0
    exact ⟨[], rfl, ⟨rfl, .inl ⟨rfl, rfl⟩⟩, trivial⟩
  · simp [Value.cells] at hcs
    obtain ⟨rfl, rfl, rfl⟩ := hcs
    have hC : Try.prog.cellsOf 3 = 1 := by kernel_rfl
    obtain ⟨l, h1, h2, hx⟩ := reads_of_each (α := Int) (fun b => [iv b]) (m := 1) (by decide) (fun _ => rfl) hl hm (fun _ => True) (fun i hil => by
      obtain ⟨cs, hc, ht⟩ := hi i (by rw [hmm]; split <;> omega)
      rw [hC] at hc
      obtain ⟨_, hlen, hat⟩ := World.cells?_some hc
      obtain ⟨z, rfl, _⟩ := DataW.trod_int Try.underlying3 ht
      refine ⟨z, fun j u hu => ?_, trivial⟩
      cases j with
      | zero =>
        cases hu
        have := hat 0 (by decide)
        rw [Deep.add_add] at this
        exact this
      | succ j => simp at hu)
    have e : l.flatMap (fun b => [iv b]) = l.map iv := by
      clear h1 h2 hx
      induction l with
      | nil => rfl
      | cons x l ih => rw [List.flatMap_cons, ih]; rfl
    exact ⟨l, h1, e ▸ h2, trivial⟩

set_option maxHeartbeats 40000000 in
theorem walk (vb : Value) (ls : List Int) (w : World) (hb : Reads w 1 vb ls.length (ls.map iv)) :
    Calls Try.prog 3 #[vb] w fun e w' => e = .returned (.bool true) ∧ Below w.heap.size w w' := by
  have HB := Lib.hid (Stb.of_old hb)
  obtain ⟨a1, c1, rfl⟩ := hb.sub
  have hm := hb.len_le
  unfold maxLen at hm
  clear hb
  have H := Lib.hid (St.init w)
  have fin : ∀ w', St w w' (Mz.old w) → Below w.heap.size w w' := fun w' h => (h.perm ((emp_star _).symm.trans (star_comm _ _))).below
  have FIN := Lib.hid fin; clear fin
  by_cases hl6 : 300 < ls.length
  · have hl7 : 300 < (ls.length : Int) := by omega
    go_enter Try.func3, Try.ntmps3
    go_wp2_with fail
    refine (lives06 H.out).mono ?_
    rintro e w1 ⟨rfl, h2⟩
    have H2 := Lib.hid h2; clear h2
    go_wp2_with fail
    refine (lives06 H2.out).mono ?_
    rintro e w2 ⟨rfl, h3⟩
    have H3 := Lib.hid h3; clear h3
    go_wp2_with fail
    go_ret
    exact ⟨rfl, FIN.out _ H3.out⟩
  have hl7 : ¬ 300 < (ls.length : Int) := by omega
  go_enter Try.func3, Try.ntmps3
  go_wp2_with fail
  refine (lives06 H.out).mono ?_
  rintro e w1 ⟨rfl, h2⟩
  have H2 := Lib.hid h2; clear h2
  have C1 := Lib.hid (canon_any H2.out ls HB.out (by omega))
  have C2 := Lib.hid (fun w0 w F (h : St w0 w F) (hv : Stb w0 F (fun w => Reads w 1 (.slice a1 ls.length c1) ls.length (ls.map iv))) => rcanon_any h ls hv (by omega))
  have hwb : (canonI ls).1.length ≤ 300 := by
    rw [canonI]; split
    · simp
    · split
      · simp [wordsC, natsOf]; omega
      · simp
  generalize canonI ls = R at *
  obtain ⟨ws, fu, er⟩ := R
  simp only at C1 C2 hwb
  go_wp2_with fail
  refine C1.out.mono ?_
  rintro e w2 ⟨v2, rfl, h2⟩
  obtain ⟨a2, c2, rfl⟩ := h2.reads.sub
  have H3 := Lib.hid h2; clear h2
  go_wp2_with fail
  refine (C2.out _ _ _ H3.out (fun w h => HB.out w h.right)).mono ?_
  rintro e w3 ⟨v3, rfl, h3⟩
  obtain ⟨a3, c3, rfl⟩ := h3.reads.sub
  have H4 := Lib.hid h3; clear h3 C1 C2
  go_wp2_with fail
  go_loopw [47] (fun vi wr => ∃ k : Nat, k ≤ ws.length ∧ vi = .int .i64 k ∧ St w wr (own 9 1 (.slice a3 ws.length c3) ws.length (ws.map txv) * (own 9 1 (.slice a2 ws.length c2) ws.length (ws.map txv) * Mz.old w))) (fun vi _ => ws.length - (intOf vi).toNat)
  case atStart => exact ⟨0, by omega, rfl, H4.out⟩
  case round =>
    clear H4 H3 H2 H
    obtain ⟨k, hk, rfl, hst⟩ := hrel
    by_cases hkn : k < ws.length
    · obtain ⟨g3, o3, rfl, e3⟩ := hst.reads.at_ hkn
      obtain ⟨g2, o2, rfl, e2⟩ := hst.right.reads.at_ hkn
      have hx := List.getElem?_eq_getElem hkn
      have hc' : (ws.map txv)[k]? = some (txv ws[k]) := by rw [List.getElem?_map, hx]; rfl
      rw [hc', txv] at e3 e2
      generalize ByteArray.mk (tx ws[k]).toArray = str at *
      clear hc' hx
      have hk0 : (0 : Int) ≤ k := by omega
      have hk1 : (k : Int) < ws.length := by omega
      have HST := Lib.hid hst; clear hst
      go_upto_region 10 with (fail)
      go_quiet (fail)
      have h8 := HST.out.drewN nq
      generalize wr.drewN nq = w8 at *
      have H8 := Lib.hid h8; clear h8 HST
      go_wp2_with fail
      exact ⟨⟨k + 1, by omega, by go_num, H8.out⟩, by simp [intOf]; omega⟩
    · obtain rfl : k = ws.length := by omega
      have HST := Lib.hid hst; clear hst
      go_wp2_with fail
      go_ret
      exact ⟨rfl, FIN.out _ HST.out.right.right⟩
#print axioms walk
end Go.Proofs.Ytdlmmkgggghlcaa.hcanon
