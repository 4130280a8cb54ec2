/-
  Lists of what is done (layer 2's statements).
-/
import Derived.Test.YtifbhbknpecnbaaRef02
import Derived.Test.YtifbhbknpecnbaaLBase
import Derived.Test.YtifbhbknpecnbaaStructs
namespace Go.Proofs.Ytifbhbknpecnbaa
open Go.RowKit Go.Mz
set_option linter.unusedVariables false
set_option linter.unusedSimpArgs false

structure OpD where
  kind : Int
  n : Int
  v : Nat
  s : List UInt8
  deriving Inhabited
def opCells (o : OpD) : List Value := [.int .i64 o.kind, .int .i64 o.n, .int .u32 o.v, .string ⟨o.s.toArray⟩]
def opsCells (l : List OpD) : List Value := l.flatMap opCells

theorem opsCells_get (l : List OpD) (k : Nat) (o : OpD) (h : l[k]? = some o) (j : Nat) (hj : j < 4) : (opsCells l)[k * 4 + j]? = (opCells o)[j]? :=
  flat_get opCells 4 (fun _ => rfl) l k o h j hj

/-- The cells of element k. -/
theorem reads_op {w : World} {a : Option Addr} {cap n : Nat} {l : List OpD} (h : Reads w 4 (.slice a n cap) n (opsCells l)) {k : Nat} {o : OpD} (hk : l[k]? = some o) :
    ∃ b off, a = some ⟨b, off, none⟩ ∧ w.cell? ⟨b, off + k * 4, none⟩ = some (.int .i64 o.kind) ∧ w.cell? ⟨b, off + k * 4 + 1, none⟩ = some (.int .i64 o.n) ∧
      w.cell? ⟨b, off + k * 4 + 2, none⟩ = some (.int .u32 o.v) ∧ w.cell? ⟨b, off + k * 4 + 3, none⟩ = some (.string ⟨o.s.toArray⟩) := by
  obtain ⟨hl, ⟨e, rfl⟩ | ⟨⟨b, off, spot⟩, c, e, h1, h2, h3⟩⟩ := h
  · have : l = [] := by
      cases l with
      | nil => rfl
      | cons p l => simp [opsCells, opCells] at hl
    simp [this] at hk
  · cases e
    have g := fun j hj => opsCells_get l k o hk j hj
    have g0 := g 0 (by decide)
    have h00 : ∃ u, (opsCells l)[0]? = some u := by
      have : k < l.length := (List.getElem?_eq_some_iff.1 hk).1
      cases l with
      | nil => simp at this
      | cons p l => exact ⟨_, rfl⟩
    obtain ⟨u0, hu0⟩ := h00
    have hspot : spot = none := by simpa [Addr.add] using World.cell?_spot (h3 0 u0 hu0)
    subst hspot
    refine ⟨b, off, rfl, ?_, ?_, ?_, ?_⟩
    · have := h3 _ _ ((g 0 (by decide)).trans rfl); rw [Addr.add_lit] at this; exact this
    · have := h3 _ _ ((g 1 (by decide)).trans rfl); rw [Addr.add_lit] at this; exact this
    · have := h3 _ _ ((g 2 (by decide)).trans rfl); rw [Addr.add_lit] at this; exact this
    · have := h3 _ _ ((g 3 (by decide)).trans rfl); rw [Addr.add_lit] at this; exact this

def FitsB (l : List OpD) : Bool := (l.all fun o => decide (o.s.length ≤ 60)) && decide (l.length ≤ 100)

theorem fits_any {w0 w : World} {F : SProp} (h : St w0 w F) (l : List OpD) {v : Value} (hv : Stb w0 F (fun w => Reads w 4 v l.length (opsCells l))) (hs : ∀ o ∈ l, o.s.length ≤ maxLen) :
    Calls Try.prog 15 #[v] w fun e w' => e = .returned (.bool (FitsB l)) ∧ St w0 w' F := by
  obtain ⟨a, cap, rfl⟩ := (hv w h).sub
  have hl := (hv w h).len_le
  unfold maxLen at hl
  have H := Lib.hid h; clear h
  have HV := Lib.hid hv; clear hv
  go_enter Try.func15, Try.ntmps15
  go_wp2_with fail
  go_loopw [7] (fun i wr => ∃ k : Nat, k ≤ l.length ∧ i = .int .i64 k ∧ (∀ o ∈ l.take k, o.s.length ≤ 60) ∧ St w0 wr F) (fun i _ => l.length - (intOf i).toNat)
  case atStart => exact ⟨0, Nat.zero_le _, rfl, by simp, H.out⟩
  case round =>
    obtain ⟨k, hk, rfl, hall, hst⟩ := hrel
    by_cases hkn : k < l.length
    · have hg : l[k]? = some l[k] := List.getElem?_eq_getElem hkn
      obtain ⟨b, off, rfl, c0, c1, c2, c3⟩ := reads_op (HV.out _ hst) hg
      have hos := hs l[k] (by simp)
      unfold maxLen at hos
      have HS := Lib.hid hst; clear hst
      have HA := Lib.hid hall; clear hall
      have HG := Lib.hid hg; clear hg
      by_cases h60 : 60 < l[k].s.length
      · have hF : FitsB l = false := by
          unfold FitsB
          rw [Bool.and_eq_false_iff]; left
          rw [List.all_eq_false]
          exact ⟨l[k], by simp, by simpa using h60⟩
        have HF := Lib.hid hF; clear hF
        generalize l[k] = o at *
        go_wp2_with fail
        go_ret
        exact ⟨by rw [HF.out]; rfl, HS.out.drop_alloc _⟩
      · have hA : ∀ o ∈ l.take (k + 1), o.s.length ≤ 60 := by
          intro o ho
          rw [List.take_succ_eq_append_getElem hkn] at ho
          rcases List.mem_append.1 ho with e | e
          · exact HA.out o e
          · simp at e; subst e; omega
        have HB := Lib.hid hA; clear hA
        generalize l[k] = o at *
        go_wp2_with fail
        exact ⟨⟨k + 1, by omega, by go_num, HB.out, HS.out.drop_alloc _⟩, by simp [intOf]; omega⟩
    · obtain rfl : k = l.length := by omega
      have HS := Lib.hid hst; clear hst
      have hA : (l.all fun o => decide (o.s.length ≤ 60)) = true := by
        rw [List.all_eq_true]
        intro o ho
        simpa using hall o (by simpa using ho)
      have HF := Lib.hid (show FitsB l = decide (l.length ≤ 100) by unfold FitsB; rw [hA]; rfl)
      clear hall hA
      go_wp2_with fail
      go_ret
      refine ⟨?_, HS.out⟩
      rw [HF.out]
      simp; omega

/-- A slice of ops that came in. -/
theorem ops_in {H : Type} {enc : TypeId × Value → H} {w : World} {base : Nat} {spare : Nat → Bool} {held : Bool} {fuel : Nat} {a : Option Addr} {len cap : Nat} {x : DataW H × List MemPlace}
    (h : DataW.trod enc Try.prog w base spare held fuel 32 (Value.slice a len cap).cells.toList = some x) :
    ∃ l : List OpD, l.length = len ∧ Reads w 4 (.slice a len cap) len (opsCells l) ∧ ∀ o ∈ l, o.s.length ≤ maxLen ∧ o.v < 4294967296 := by
  rcases struct_cells Try.underlying32 Try.underlying36 (by kernel_rfl) (by kernel_rfl) h with h0 | ⟨b, l, c, hv, hl, hm, hc⟩
  · cases h0
    exact ⟨[], rfl, ⟨rfl, .inl ⟨rfl, rfl⟩⟩, by simp⟩
  · cases hv
    have hx : ∀ i, i < len → ∃ o : OpD, (∀ j u, (opCells o)[j]? = some u → w.cell? (b.add (i * 4 + j)) = some u) ∧ o.s.length ≤ maxLen ∧ o.v < 4294967296 := by
      intro i hi
      obtain ⟨u0, y0, n0, c0, t0⟩ := hc i hi 0 _ rfl
      obtain ⟨u1, y1, n1, c1, t1⟩ := hc i hi 1 _ rfl
      obtain ⟨u2, y2, n2, c2, t2⟩ := hc i hi 2 _ rfl
      obtain ⟨u3, y3, n3, c3, t3⟩ := hc i hi 3 _ rfl
      obtain ⟨z0, e0, _, _⟩ := DataW.trod_int Try.underlying3 t0
      obtain ⟨z1, e1, _, _⟩ := DataW.trod_int Try.underlying3 t1
      obtain ⟨z2, e2, _, w2⟩ := DataW.trod_int Try.underlying27 t2
      obtain ⟨s, e3, _, hs⟩ := DataW.trod_string Try.underlying9 t3
      simp only [List.cons.injEq, and_true] at e0 e1 e2 e3
      subst e0 e1 e2 e3
      have hz2 : 0 ≤ z2 ∧ z2 < 4294967296 := by
        simp [Lit.wf, IntKind.min, IntKind.max, IntKind.bits, IntKind.signed] at w2
        omega
      refine ⟨⟨z0, z1, z2.toNat, s.data.toList⟩, fun j u hu => ?_, hs, by show z2.toNat < _; omega⟩
      match j with
      | 0 => cases hu; exact c0
      | 1 => cases hu; exact c1
      | 2 => cases hu; simpa [Int.toNat_of_nonneg hz2.1] using c2
      | 3 => cases hu; exact c3
      | j + 4 => simp [opCells] at hu
    exact reads_of_each opCells (by decide) (fun _ => rfl) hl hm (fun o => o.s.length ≤ maxLen ∧ o.v < 4294967296) hx
end Go.Proofs.Ytifbhbknpecnbaa
