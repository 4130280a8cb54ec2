/-
  Layer 23: fields as they lie in memory; the table of fields (package tags), its values.
-/
import Derived.Test.YthoegjdkeooenaaChecked
import Derived.WalkLawsBesides
import Derived.Test.YthoegjdkeooenaaTagM
import Derived.Test.YthoegjdkeooenaaStructs
import Derived.Test.YthoegjdkeooenaaSep
namespace Go.Proofs.Ythoegjdkeooenaa
open Go.RowKit Go.Mz
set_option linter.unusedVariables false
set_option linter.unusedSimpArgs false
set_option maxRecDepth 100000

theorem bodyPost_ret2c {P : Program} {fn : Func} {R : Ending → World → Prop} {x u : Nat} {ty e : TypeId} {cs : Array Value} {fr : Nat × Nat} {b : Nat} {a : Act} {w : World} {d : TypeDesc} (h : fn.results = #[.cell x ty, .tmp u])
    (hx : a.tmps.getD x undef = .pointer (some ⟨b, 0, none⟩)) (hg : w.heap[b]? = some (.cells cs e fr)) (hu : P.underlying ty = some d) (hd : (match d with | .struct _ | .array _ _ => true | _ => false) = true) (hi : (P.info? ty).map (·.size) = some cs.size)
    (hf : a.defers = []) (hR : R (.returned (.tuple #[.agg cs, a.tmps.getD u undef])) w) : bodyPost P fn R .ret a w := by
  refine ⟨hf, _, ?_, hR⟩
  have hx' : a.tmps[x]?.getD undef = .pointer (some ⟨b, 0, none⟩) := by simpa using hx
  simp [results, h, hx', asAddr, run_loadVar_row w b e ty cs fr d hg hu hd hi]

/-- A field as it lies in memory: the slice of its values, and what it is. -/
abbrev FV := Value × Fld
def u64v (n : Nat) : Value := .int .u64 (n : Int)
def fldC (x : FV) : List Value := [.int .u16 (x.2.tag : Int), .int .i64 x.2.kind, x.1]
structure FldsR (w : World) (v : Value) (L : List FV) : Prop where
  row : Reads w 3 v L.length (L.flatMap fldC)
  vals : ∀ x ∈ L, Reads w 1 x.1 x.2.vals.length (x.2.vals.map u64v)
def findV (L : List FV) (t : Nat) : Option FV := L.find? fun x => x.2.tag == t
theorem findV_snd (L : List FV) (t : Nat) : findF (L.map Prod.snd) t = (findV L t).map Prod.snd := by
  unfold findF findV
  induction L with
  | nil => rfl
  | cons x L ih =>
    rw [List.map_cons, List.find?_cons, List.find?_cons]
    cases h : x.2.tag == t
    · simpa [h] using ih
    · simp [h]
theorem findV_hit {x : FV} {L : List FV} {t : Nat} (h : x.2.tag = t) : findV (x :: L) t = some x := by
  have hb : (x.2.tag == t) = true := by simpa using h
  unfold findV; rw [List.find?_cons, hb]
theorem findV_miss {x : FV} {L : List FV} {t : Nat} (h : ¬ x.2.tag = t) : findV (x :: L) t = findV L t := by
  have hb : (x.2.tag == t) = false := by simpa using h
  unfold findV; rw [List.find?_cons, hb]
theorem findV_mem {L : List FV} {t : Nat} {x : FV} (h : findV L t = some x) : x ∈ L := List.mem_of_find?_eq_some h
theorem findV_tag {L : List FV} {t : Nat} {x : FV} (h : findV L t = some x) : x.2.tag = t := by
  have := List.find?_some h
  simpa using this
/-- The cells of field k. -/
theorem reads_fld {w : World} {a : Option Addr} {cap n : Nat} {L : List FV} (h : Reads w 3 (.slice a n cap) n (L.flatMap fldC)) {k : Nat} {x : FV} (hk : L[k]? = some x) :
    ∃ b off, a = some ⟨b, off, none⟩ ∧ w.cell? ⟨b, off + k * 3, none⟩ = some (.int .u16 (x.2.tag : Int)) ∧ w.cell? ⟨b, off + k * 3 + 1, none⟩ = some (.int .i64 x.2.kind) ∧ w.cell? ⟨b, off + k * 3 + 2, none⟩ = some x.1 := by
  have g := fun j hj => flat_get fldC 3 (fun _ => rfl) L k x hk j hj
  obtain ⟨hl, ⟨e, rfl⟩ | ⟨⟨b, off, spot⟩, c, e, h1, h2, h3⟩⟩ := h
  · have h0 : L.flatMap fldC = [] := List.eq_nil_of_length_eq_zero (by simpa using hl)
    have := g 0 (by decide)
    rw [h0] at this; simp [fldC] at this
  · cases e
    have hpos : 0 < (L.flatMap fldC).length := by
      have := g 0 (by decide)
      rcases Nat.eq_zero_or_pos (L.flatMap fldC).length with h | h
      · rw [List.eq_nil_of_length_eq_zero h] at this; simp [fldC] at this
      · exact h
    have hspot : spot = none := by simpa [Addr.add] using World.cell?_spot (h3 0 _ (List.getElem?_eq_getElem hpos))
    subst hspot
    have c0 := h3 _ _ (g 0 (by decide))
    have c1 := h3 _ _ (g 1 (by decide))
    have c2 := h3 _ _ (g 2 (by decide))
    rw [Addr.add_lit] at c0 c1 c2
    exact ⟨b, off, rfl, by simpa using c0, by rw [Nat.add_assoc]; exact c1, by rw [Nat.add_assoc]; exact c2⟩

/-- The table. -/
def tbl (g : Nat) (v : Value) (e : Nat) : SProp := blk g (.cells #[v, .int .i64 (e : Int)] 56)

theorem whole_any (k : Int) (w : World) : Calls Try.prog 62 #[.int .i64 k] w fun e w' => e = .returned (.bool (wholeK k)) ∧ w' = w := by
  go_enter Try.func62, Try.ntmps62
  by_cases h1 : k = 1
  · subst h1; go_wp2_with fail; go_ret; exact ⟨rfl, rfl⟩
  by_cases h2 : k = 3
  · subst h2; go_wp2_with fail; go_ret; exact ⟨rfl, rfl⟩
  by_cases h3 : k = 4
  · subst h3; go_wp2_with fail; go_ret; exact ⟨rfl, rfl⟩
  by_cases h4 : k = 13
  · subst h4; go_wp2_with fail; go_ret; exact ⟨rfl, rfl⟩
  by_cases h5 : k = 16
  · subst h5; go_wp2_with fail; go_ret; exact ⟨rfl, rfl⟩
  by_cases h6 : k = 18
  · subst h6; go_wp2_with fail; go_ret; exact ⟨rfl, rfl⟩
  have hw : wholeK k = false := by simp [wholeK, *]
  rw [hw]
  go_wp2_with fail
  go_ret
  exact ⟨rfl, rfl⟩

theorem fail_any {w0 w : World} {F : SProp} {g e : Nat} {v : Value} (h : St w0 w (tbl g v e * F)) (x : Nat) {j : Int} (hj : j = x) :
    Calls Try.prog 25 #[.pointer (some ⟨g, 0, none⟩), .int .i64 j] w fun r w' => r = .returned (.tuple #[]) ∧ St w0 w' (tbl g v (orE e x) * F) := by
  subst hj
  have c1 := St.cell h 1 rfl
  have f1 := St.free h 1
  by_cases he : e = 0
  · subst he
    have HS := Lib.hid (St.set h 1 (.int .i64 (x : Int)))
    clear h
    go_enter Try.func25, Try.ntmps25
    go_wp2_with fail
    go_end0
    exact ⟨rfl, HS.out⟩
  · have hn : ¬ ((e : Int) = 0) := by omega
    have H := Lib.hid h
    clear h
    go_enter Try.func25, Try.ntmps25
    go_wp2_with fail
    go_end0
    exact ⟨rfl, by rw [orE, if_neg he]; exact H.out⟩

/-- What 'values' gives: the slice, and whether it is there; and what is wrong then. -/
def valuesV (L : List FV) (t : Nat) : Value := match findV L t with
  | none => .slice none 0 0
  | some x => if wholeK x.2.kind then x.1 else .slice none 0 0
def valuesB (L : List FV) (t : Nat) : Bool := match findV L t with
  | none => false
  | some x => wholeK x.2.kind
def valuesE (L : List FV) (t : Nat) : Nat := match findV L t with
  | none => 0
  | some x => if wholeK x.2.kind then 0 else 3

set_option maxHeartbeats 40000000 in
theorem values_any {w0 w : World} {F : SProp} {g e : Nat} {v : Value} {L : List FV} (h : St w0 w (tbl g v e * F)) (hv : Stb w0 F (fun w => FldsR w v L)) (hL : L.length ≤ 1000000) (t : Nat) {j : Int} (hj : j = t) :
    Calls Try.prog 48 #[.pointer (some ⟨g, 0, none⟩), .int .u16 j] w fun r w' => r = .returned (.tuple #[valuesV L t, .bool (valuesB L t)]) ∧ St w0 w' (tbl g v (orE e (valuesE L t)) * F) := by
  subst hj
  obtain ⟨a, cap, rfl⟩ := ((hv w h.right).row).sub
  have HV := Lib.hid hv; clear hv
  have H := Lib.hid h
  have c0 := St.cell h 0 rfl
  clear h
  go_enter Try.func48, Try.ntmps48
  go_wp2_with fail
  go_loopw [13] (fun vi wr => ∃ k : Nat, k ≤ L.length ∧ vi = .int .i64 k ∧ findV L t = findV (L.drop k) t ∧ St w0 wr (tbl g (.slice a L.length cap) e * F)) (fun vi _ => L.length - (intOf vi).toNat)
  case atStart => exact ⟨0, by omega, rfl, rfl, H.out⟩
  case round =>
    clear H c0
    obtain ⟨k, hk, rfl, hfd, hst⟩ := hrel
    by_cases hkn : k < L.length
    · have hx := List.getElem?_eq_getElem hkn
      obtain ⟨b, off, rfl, c0, c1, c2⟩ := reads_fld (HV.out _ hst.right).row hx
      have hd : L.drop k = L[k] :: L.drop (k + 1) := List.drop_eq_getElem_cons hkn
      have hkI : (k : Int) < L.length := by omega
      obtain ⟨ao, co, hos⟩ := ((HV.out _ hst.right).vals _ (List.getElem_mem hkn)).sub
      generalize L[k] = o at *
      obtain ⟨ov, o⟩ := o
      simp only at hos
      subst hos
      generalize o.vals.length = no at *
      simp only at c0 c1 c2
      rw [hd] at hfd
      clear hd hx
      have HST := Lib.hid (hst.drop_alloc (.cells #[.int .u16 (o.tag : Int), .int .i64 o.kind, .slice ao no co] 53))
      have HS0 := Lib.hid hst
      clear hst
      by_cases ht : o.tag = t
      · have hfo : findV L t = some (.slice ao no co, o) := hfd.trans (findV_hit ht)
        subst ht
        clear hfd
        have HW := Lib.hid (fun w => whole_any o.kind w)
        cases hk : wholeK o.kind
        · have e1 : valuesV L o.tag = .slice none 0 0 := by rw [valuesV, hfo]; simp [hk]
          have e2 : valuesB L o.tag = false := by rw [valuesB, hfo]; exact hk
          have e3 : valuesE L o.tag = 3 := by rw [valuesE, hfo]; simp [hk]
          have HE := Lib.hid (And.intro e1 (And.intro e2 e3))
          have HFL := Lib.hid (fun (w : World) (h : St w0 w (tbl g (.slice (some ⟨b, off, none⟩) L.length cap) e * F)) => fail_any h 3 (j := 3) rfl)
          rw [hk] at HW
          clear e1 e2 e3 hfo hk
          go_wp2_with (first | (go_at_call 25; refine (HFL.out _ HST.out).mono ?_; rintro e w2 ⟨rfl, h2⟩; have H2 := Lib.hid h2; clear h2) | (go_at_call 62; refine (HW.out _).mono ?_; rintro e w1 ⟨rfl, rfl⟩))
          go_ret2
          rw [HE.out.1, HE.out.2.1, HE.out.2.2]
          exact ⟨rfl, H2.out⟩
        · have e1 : valuesV L o.tag = .slice ao no co := by rw [valuesV, hfo]; simp [hk]
          have e2 : valuesB L o.tag = true := by rw [valuesB, hfo]; exact hk
          have e3 : valuesE L o.tag = 0 := by rw [valuesE, hfo]; simp [hk]
          have HE := Lib.hid (And.intro e1 (And.intro e2 e3))
          rw [hk] at HW
          clear e1 e2 e3 hfo hk
          go_wp2_with (first | (go_at_call 62; refine (HW.out _).mono ?_; rintro e w1 ⟨rfl, rfl⟩))
          go_ret2
          rw [HE.out.1, HE.out.2.1, HE.out.2.2, orE_nil]
          exact ⟨rfl, HST.out⟩
      · have htI : ¬ ((o.tag : Int) = t) := by omega
        have hfd2 : findV L t = findV (L.drop (k + 1)) t := hfd.trans (findV_miss ht)
        clear hfd
        go_wp2_with fail
        exact ⟨⟨k + 1, by omega, by go_num, hfd2, HST.out⟩, by simp [intOf]; omega⟩
    · obtain rfl : k = L.length := by omega
      have hfn : findV L t = none := by rw [hfd, List.drop_length]; rfl
      have H2 := Lib.hid hst
      clear hst hfd
      go_wp2_with fail
      go_ret2
      rw [valuesV, valuesB, valuesE, hfn]
      exact ⟨rfl, by rw [orE_nil]; exact H2.out⟩
end Go.Proofs.Ythoegjdkeooenaa
