/-
  Layer 23: the fields that tell of a page (tags.Fields).
-/
import Derived.Test.YthoegjdkeooenaaTagN
namespace Go.Proofs.Ythoegjdkeooenaa
open Go.RowKit Go.Mz
set_option linter.unusedVariables false
set_option linter.unusedSimpArgs false
set_option maxRecDepth 100000

/-- Fields that were told, or what is wrong. -/
def FldsOut (w0 : World) (F : SProp) (L : List Fld) (er : Nat) (e : Ending) (w' : World) : Prop :=
  ∃ v R K, e = .returned (.tuple #[v, .int .i64 (er : Int)]) ∧ St w0 w' (K * F) ∧ Stb w0 (K * F) (fun w => FldsR w v R) ∧ fl R = L
/-- Fields so far: their row, and what their values read. -/
def FldsS (w0 w : World) (A : SProp) (v : Value) (L : List FV) : Prop :=
  ∃ K, St w0 w (own 53 3 v L.length (L.flatMap fldC) * (K * A)) ∧ ∀ y ∈ L, Stb w0 (K * A) (fun w => Reads w 1 y.1 y.2.vals.length (y.2.vals.map u64v))
theorem FldsS.of_vals {w0 w : World} {A : SProp} {v : Value} {L : List FV} (h : St w0 w (own 53 3 v L.length (L.flatMap fldC) * (valsP L * A))) : FldsS w0 w A v L :=
  ⟨valsP L, h, fun y hy w hw => valsP_reads L A hw y hy⟩

theorem ones_fld {M : List FV} (h : ∀ y ∈ M, y.1.oneCell' = true) : ∀ u ∈ M.flatMap fldC, u.oneCell' = true := by
  intro u hu
  obtain ⟨y, hy, hu⟩ := List.mem_flatMap.1 hu
  simp only [fldC, List.mem_cons, List.not_mem_nil, or_false] at hu
  rcases hu with rfl | rfl | rfl
  · rfl
  · rfl
  · exact h y hy
/-- One field more. -/
theorem FldsS.snoc {w0 w : World} {A X K : SProp} {v : Value} {L : List FV} {y : FV} (h : St w0 w (own 53 3 v (L.length + 1) (L.flatMap fldC ++ fldC y) * (X * (own 27 1 y.1 y.2.vals.length (y.2.vals.map u64v) * (K * A)))))
    (hL : ∀ y ∈ L, Stb w0 (K * A) (fun w => Reads w 1 y.1 y.2.vals.length (y.2.vals.map u64v))) : FldsS w0 w A v (L ++ [y]) := by
  refine ⟨X * (own 27 1 y.1 y.2.vals.length (y.2.vals.map u64v) * K), ?_, fun z hz w hw => ?_⟩
  · rw [List.length_append, List.length_singleton, List.flatMap_append, List.flatMap_singleton]
    exact h.perm (by simp only [star_assoc])
  · have hw2 : St w0 w (own 27 1 y.1 y.2.vals.length (y.2.vals.map u64v) * (K * A)) := by
      have h := hw.perm (show _ = X * (own 27 1 y.1 y.2.vals.length (y.2.vals.map u64v) * (K * A)) by simp only [star_assoc])
      exact h.right
    rcases List.mem_append.1 hz with hz | hz
    · exact hL z hz w hw2.right
    · obtain rfl := List.mem_singleton.1 hz
      exact hw2.reads
/-- More fields, whose values stand by themselves. -/
theorem FldsS.app {w0 w : World} {A X K : SProp} {v : Value} {L M : List FV} (h : St w0 w (own 53 3 v (L.length + M.length) (L.flatMap fldC ++ M.flatMap fldC) * (X * (K * A))))
    (hL : ∀ y ∈ L, Stb w0 (K * A) (fun w => Reads w 1 y.1 y.2.vals.length (y.2.vals.map u64v))) (hM : ∀ y ∈ M, Stb w0 (X * (K * A)) (fun w => Reads w 1 y.1 y.2.vals.length (y.2.vals.map u64v))) : FldsS w0 w A v (L ++ M) := by
  refine ⟨X * K, ?_, fun z hz w hw => ?_⟩
  · rw [List.length_append, List.flatMap_append]
    exact h.perm (by simp only [star_assoc])
  · have hw2 : St w0 w (X * (K * A)) := hw.perm (by simp only [star_assoc])
    rcases List.mem_append.1 hz with hz | hz
    · exact hL z hz w hw2.right
    · exact hM z hz w hw2

set_option maxHeartbeats 40000000 in
theorem fields_any {w0 w : World} {F : SProp} (h : St w0 w F) {p : PgD} {ao ac ar : Option Addr} {no nc nr co cc cr : Nat} {R : List FV}
    (hA : Stb w0 F (fun w => PgR w p (.slice ao no co) (.slice ac nc cc) (.slice ar nr cr) R)) (hlo : p.offs.length ≤ 100000) (hlc : p.cnts.length ≤ 100000) (hlr : p.rest.length ≤ 1000) (hlv : ∀ f ∈ p.rest, f.vals.length ≤ 100000) (hT : ∀ f ∈ p.rest, f.tag < 65536)
    (hper : p.per ≤ 1000) (al lg : Bool) :
    Calls Try.prog 11 #[.agg (pgC p (.slice ao no co) (.slice ac nc cc) (.slice ar nr cr)), .bool al, .bool lg] w (FldsOut w0 F (fieldsV p al lg) (fieldsE p al lg)) := by
  have HA := Lib.hid hA
  have h1 := h.alloc (.cells (pgC p (.slice ao no co) (.slice ac nc cc) (.slice ar nr cr)) 30)
  have H1 := Lib.hid h1
  obtain ⟨LV, hLV⟩ : ∃ LV, LV = fieldsV p al lg := ⟨_, rfl⟩
  obtain ⟨er, her⟩ : ∃ er, er = fieldsE p al lg := ⟨_, rfl⟩
  rw [← hLV, ← her]
  have HLVV := Lib.hid hLV; have Her := Lib.hid her
  clear hLV her
  obtain ⟨e1, e2⟩ : no = p.offs.length ∧ nc = p.cnts.length := ⟨by
    obtain ⟨a, c, e⟩ := (hA w h).offs.sub; cases e; rfl, by
    obtain ⟨a, c, e⟩ := (hA w h).cnts.sub; cases e; rfl⟩
  have e3 : nr = R.length := by
    obtain ⟨a, c, e⟩ := (hA w h).rest.row.sub; cases e; rfl
  have HE := Lib.hid (And.intro e1 (And.intro e2 e3))
  clear e1 e2 e3
  have HLV := Lib.hid hlv; have HTT := Lib.hid hT; have HN := Lib.hid (And.intro hlo (And.intro hlc hlr))
  have hcell : ∀ W, St w0 W (blk w.heap.size (.cells (pgC p (.slice ao no co) (.slice ac nc cc) (.slice ar nr cr)) 30) * F) → ∀ i v, (pgC p (.slice ao no co) (.slice ac nc cc) (.slice ar nr cr))[i]? = some v → W.cell? ⟨w.heap.size, i, none⟩ = some v := fun W h i v hv => h.cell i hv
  have HC := Lib.hid hcell
  clear hA h h1 hlv hT hlo hlc hlr hcell
  unfold pgC at H1 HC
  unfold pgC
  go_enter Try.func11, Try.ntmps11
  go_upto_region 4 with (fail)
  generalize hb0 : w.heap.size = b0 at *
  have HS : Hid (St w0 _ (blk b0 (.cells #[.int .i64 p.lay.width, .int .i64 p.lay.height, .bool p.lay.tiled, .int .i64 p.lay.w, .int .i64 p.lay.h, .int .i64 p.per, .int .i64 p.bits, .int .u64 (p.photo : Int), .bool p.planar, .int .i64 p.scheme, .bool p.predict, .bool p.low, .bool p.two, .slice ao no co, .slice ac nc cc, .slice ar nr cr] 30) * F)) := H1
  clear H1 hb0
  generalize World.alloc _ _ = wa at *
  obtain ⟨AA, hAA⟩ : ∃ AA, AA = (blk b0 (.cells #[.int .i64 p.lay.width, .int .i64 p.lay.height, .bool p.lay.tiled, .int .i64 p.lay.w, .int .i64 p.lay.h, .int .i64 p.per, .int .i64 p.bits, .int .u64 (p.photo : Int), .bool p.planar, .int .i64 p.scheme, .bool p.predict, .bool p.low, .bool p.two, .slice ao no co, .slice ac nc cc, .slice ar nr cr] 30) * F) := ⟨_, rfl⟩
  rw [← hAA] at HS HC
  have HAA := Lib.hid hAA
  clear hAA
  have c5 : wa.cell? ⟨b0, 5, none⟩ = some (.int .i64 p.per) := HC.out _ HS.out 5 _ rfl
  have T := elemU64
  obtain ⟨m, hm⟩ : ∃ m : Nat, m = p.per.toNat := ⟨_, rfl⟩
  have hm2 : m ≤ 1000 := by omega
  have HM := Lib.hid hm
  go_wp2_with fail
  clear c5 hm
  go_loopw [10, 20] (fun vb vi wr => ∃ k : Nat, k ≤ m ∧ vi = .int .i64 k ∧ St w0 wr (own 27 1 vb k (List.replicate k (u64v (u64N p.bits))) * AA)) (fun vb vi _ => m - (intOf vi).toNat)
  case atStart => exact ⟨0, by omega, rfl, HS.out.own_nil _ _⟩
  case round =>
    clear HS
    obtain ⟨k, hk, rfl, hst⟩ := hrel
    by_cases hkn : k < m
    · have hkI : (k : Int) < p.per := by have := HM.out; omega
      have c6 : wr.cell? ⟨b0, 6, none⟩ = some (.int .i64 p.bits) := HC.out _ hst.right 6 _ rfl
      have hw := wrap_u64N p.bits
      obtain ⟨ab, cb, rfl⟩ := hst.reads.sub
      have HST := Lib.hid hst
      clear hst
      go_wp2_with (at_builtin; apply stop)
      have H3 := Lib.hid (HST.out.alloc (.cells #[.int .u64 (u64N p.bits : Int)] 27))
      refine on (wpList_append_sep T rfl _ _ rfl rfl (H3.out.right) rfl (x := .slice (some ⟨wr.heap.size, 0, none⟩) 1 1) (m := 1) (news := [.int .u64 (u64N p.bits : Int)]) (H3.out.own_blk (Nat.le_refl 1) (by decide) rfl rfl).reads (by intro u hu; rw [List.mem_singleton] at hu; subst hu; rfl) (by unfold maxLen; omega) (by omega) ?_)
      intro v' w' h7 _
      have H7 := Lib.hid h7
      clear h7 H3 HST
      go_wp2_with fail
      refine ⟨⟨k + 1, by omega, by go_num, ?_⟩, by simp [intOf]; omega⟩
      rw [List.replicate_succ']
      exact H7.out
    · obtain rfl : m = k := by omega
      have hkI : ¬ (m : Int) < p.per := by have := HM.out; omega
      obtain ⟨ab, cb, rfl⟩ := hst.reads.sub
      have HST := Lib.hid hst
      clear hst
      go_upto_if 29 with (fail)
      go_cut [11] from 29 to 29 (fun x wx => x = .int .i64 (wideK lg) ∧ wx = wr)
      case first =>
        cases lg
        · go_wp2_with fail
          go_meet
          exact ⟨rfl, rfl⟩
        · go_wp2_with fail
          go_meet
          exact ⟨rfl, rfl⟩
      obtain ⟨rfl, rfl⟩ := hcut
      obtain ⟨BITS, hBITS⟩ : ∃ BITS, BITS = own 27 1 (.slice ab m cb) m (List.replicate m (u64v (u64N p.bits))) := ⟨_, rfl⟩
      rw [← hBITS] at HST
      have HS := HST
      clear HST
      have HB := Lib.hid hBITS
      clear hBITS
      go_upto_region 11 with (fail)
      go_cut [12] from 30 to 85 (fun x wx => ∃ L : List FV, fl L = base9 p ∧ FldsS w0 wx AA x L)
      case first =>
        have q1 := wrap_u64N p.lay.width
        have q2 := wrap_u64N p.lay.height
        have q3 := wrap_u64N p.scheme
        have q4 := wrap_u64N p.per
        -- REGION 11
        have hSd := HS.out.drew
        refine wp_region_noPanic ?_
        refine region_till (S := fun W : World => St w0 W (BITS * AA)) (k := 56) (by kernel_rfl) ?_
        have hS : St w0 _ (BITS * AA) := (fun _ h => h) _ hSd
        refine till_take0 (i := 0) (oi := ?_) (v := ?_) ?_ (by kernel_rfl) (by kernel_rfl) (by kernel_rfl) (by decide) (fun _ _ _ h => h.elim) (by assumption) (.inl ⟨?_, fun w => ?_⟩) ?_
        rotate_left 2
        · (simp only [List.getElem?_toArray, List.getElem?_cons_succ, List.getElem?_cons_zero]; rfl)
        · rfl
        · (go_simp; try with_reducible rfl)
        simp only [Act.put, List.setIfInBounds_toArray, List.set_cons_zero, List.set_cons_succ]
        refine till_take0 (i := 1) (oi := ?_) (v := ?_) ?_ (by kernel_rfl) (by kernel_rfl) (by kernel_rfl) (by decide) (fun _ _ _ h => h.elim) (by assumption) (.inl ⟨?_, fun w => ?_⟩) ?_
        rotate_left 2
        · (simp only [List.getElem?_toArray, List.getElem?_cons_succ, List.getElem?_cons_zero]; rfl)
        · rfl
        · (go_simp; try with_reducible rfl)
        simp only [Act.put, List.setIfInBounds_toArray, List.set_cons_zero, List.set_cons_succ]
        refine till_take0 (i := 2) (oi := ?_) (v := ?_) ?_ (by kernel_rfl) (by kernel_rfl) (by kernel_rfl) (by decide) (fun _ _ _ h => h.elim) (by assumption) (.inl ⟨?_, fun w => ?_⟩) ?_
        rotate_left 2
        · (simp only [List.getElem?_toArray, List.getElem?_cons_succ, List.getElem?_cons_zero]; rfl)
        · rfl
        · (go_simp; try with_reducible rfl)
        simp only [Act.put, List.setIfInBounds_toArray, List.set_cons_zero, List.set_cons_succ]
        refine till_take (i := 3) (oi := ?_) (v := ?_) ?_ (by kernel_rfl) (by kernel_rfl) (by kernel_rfl) (by kernel_rfl) (by kernel_rfl) (fun _ _ _ h => h.elim) (by assumption) (.inl ⟨?_, fun w hSw => ?_⟩) ?_
        rotate_left 2
        · (simp only [List.getElem?_toArray, List.getElem?_cons_succ, List.getElem?_cons_zero]; rfl)
        · rfl
        · (have hc : w.cell? ⟨b0, 0, none⟩ = some (.int .i64 p.lay.width) := HC.out w (hSw.right) 0 _ rfl; clear hSw; go_simp; try with_reducible rfl)
        simp only [Act.put, List.setIfInBounds_toArray, List.set_cons_zero, List.set_cons_succ]
        refine till_take0 (i := 4) (oi := ?_) (v := ?_) ?_ (by kernel_rfl) (by kernel_rfl) (by kernel_rfl) (by decide) (fun _ _ _ h => h.elim) (by assumption) (.inl ⟨?_, fun w => ?_⟩) ?_
        rotate_left 2
        · (simp only [List.getElem?_toArray, List.getElem?_cons_succ, List.getElem?_cons_zero]; rfl)
        · rfl
        · (go_simp; try with_reducible rfl)
        simp only [Act.put, List.setIfInBounds_toArray, List.set_cons_zero, List.set_cons_succ]
        refine till_take0 (i := 7) (oi := ?_) (v := ?_) ?_ (by kernel_rfl) (by kernel_rfl) (by kernel_rfl) (by decide) (fun _ _ _ h => h.elim) (by assumption) (.inl ⟨?_, fun w => ?_⟩) ?_
        rotate_left 2
        · (simp only [List.getElem?_toArray, List.getElem?_cons_succ, List.getElem?_cons_zero]; rfl)
        · rfl
        · (go_simp; try with_reducible rfl)
        simp only [Act.put, List.setIfInBounds_toArray, List.set_cons_zero, List.set_cons_succ]
        refine till_take0 (i := 8) (oi := ?_) (v := ?_) ?_ (by kernel_rfl) (by kernel_rfl) (by kernel_rfl) (by decide) (fun _ _ _ h => h.elim) (by assumption) (.inl ⟨?_, fun w => ?_⟩) ?_
        rotate_left 2
        · (simp only [List.getElem?_toArray, List.getElem?_cons_succ, List.getElem?_cons_zero]; rfl)
        · rfl
        · (go_simp; try with_reducible rfl)
        simp only [Act.put, List.setIfInBounds_toArray, List.set_cons_zero, List.set_cons_succ]
        refine till_take0 (i := 9) (oi := ?_) (v := ?_) ?_ (by kernel_rfl) (by kernel_rfl) (by kernel_rfl) (by decide) (fun _ _ _ h => h.elim) (by assumption) (.inl ⟨?_, fun w => ?_⟩) ?_
        rotate_left 2
        · (simp only [List.getElem?_toArray, List.getElem?_cons_succ, List.getElem?_cons_zero]; rfl)
        · rfl
        · (go_simp; try with_reducible rfl)
        simp only [Act.put, List.setIfInBounds_toArray, List.set_cons_zero, List.set_cons_succ]
        refine till_take (i := 10) (oi := ?_) (v := ?_) ?_ (by kernel_rfl) (by kernel_rfl) (by kernel_rfl) (by kernel_rfl) (by kernel_rfl) (fun _ _ _ h => h.elim) (by assumption) (.inl ⟨?_, fun w hSw => ?_⟩) ?_
        rotate_left 2
        · (simp only [List.getElem?_toArray, List.getElem?_cons_succ, List.getElem?_cons_zero]; rfl)
        · rfl
        · (have hc : w.cell? ⟨b0, 1, none⟩ = some (.int .i64 p.lay.height) := HC.out w (hSw.right) 1 _ rfl; clear hSw; go_simp; try with_reducible rfl)
        simp only [Act.put, List.setIfInBounds_toArray, List.set_cons_zero, List.set_cons_succ]
        refine till_take0 (i := 11) (oi := ?_) (v := ?_) ?_ (by kernel_rfl) (by kernel_rfl) (by kernel_rfl) (by decide) (fun _ _ _ h => h.elim) (by assumption) (.inl ⟨?_, fun w => ?_⟩) ?_
        rotate_left 2
        · (simp only [List.getElem?_toArray, List.getElem?_cons_succ, List.getElem?_cons_zero]; rfl)
        · rfl
        · (go_simp; try with_reducible rfl)
        simp only [Act.put, List.setIfInBounds_toArray, List.set_cons_zero, List.set_cons_succ]
        refine till_take0 (i := 14) (oi := ?_) (v := ?_) ?_ (by kernel_rfl) (by kernel_rfl) (by kernel_rfl) (by decide) (fun _ _ _ h => h.elim) (by assumption) (.inl ⟨?_, fun w => ?_⟩) ?_
        rotate_left 2
        · (simp only [List.getElem?_toArray, List.getElem?_cons_succ, List.getElem?_cons_zero]; rfl)
        · rfl
        · (go_simp; try with_reducible rfl)
        simp only [Act.put, List.setIfInBounds_toArray, List.set_cons_zero, List.set_cons_succ]
        refine till_take0 (i := 15) (oi := ?_) (v := ?_) ?_ (by kernel_rfl) (by kernel_rfl) (by kernel_rfl) (by decide) (fun _ _ _ h => h.elim) (by assumption) (.inl ⟨?_, fun w => ?_⟩) ?_
        rotate_left 2
        · (simp only [List.getElem?_toArray, List.getElem?_cons_succ, List.getElem?_cons_zero]; rfl)
        · rfl
        · (go_simp; try with_reducible rfl)
        simp only [Act.put, List.setIfInBounds_toArray, List.set_cons_zero, List.set_cons_succ]
        refine till_take0 (i := 17) (oi := ?_) (v := ?_) ?_ (by kernel_rfl) (by kernel_rfl) (by kernel_rfl) (by decide) (fun _ _ _ h => h.elim) (by assumption) (.inl ⟨?_, fun w => ?_⟩) ?_
        rotate_left 2
        · (simp only [List.getElem?_toArray, List.getElem?_cons_succ, List.getElem?_cons_zero]; rfl)
        · rfl
        · (go_simp; try with_reducible rfl)
        simp only [Act.put, List.setIfInBounds_toArray, List.set_cons_zero, List.set_cons_succ]
        refine till_take0 (i := 18) (oi := ?_) (v := ?_) ?_ (by kernel_rfl) (by kernel_rfl) (by kernel_rfl) (by decide) (fun _ _ _ h => h.elim) (by assumption) (.inl ⟨?_, fun w => ?_⟩) ?_
        rotate_left 2
        · (simp only [List.getElem?_toArray, List.getElem?_cons_succ, List.getElem?_cons_zero]; rfl)
        · rfl
        · (go_simp; try with_reducible rfl)
        simp only [Act.put, List.setIfInBounds_toArray, List.set_cons_zero, List.set_cons_succ]
        refine till_take (i := 19) (oi := ?_) (v := ?_) ?_ (by kernel_rfl) (by kernel_rfl) (by kernel_rfl) (by kernel_rfl) (by kernel_rfl) (fun _ _ _ h => h.elim) (by assumption) (.inl ⟨?_, fun w hSw => ?_⟩) ?_
        rotate_left 2
        · (simp only [List.getElem?_toArray, List.getElem?_cons_succ, List.getElem?_cons_zero]; rfl)
        · rfl
        · (have hc : w.cell? ⟨b0, 9, none⟩ = some (.int .i64 p.scheme) := HC.out w (hSw.right) 9 _ rfl; clear hSw; go_simp; try with_reducible rfl)
        simp only [Act.put, List.setIfInBounds_toArray, List.set_cons_zero, List.set_cons_succ]
        refine till_take0 (i := 20) (oi := ?_) (v := ?_) ?_ (by kernel_rfl) (by kernel_rfl) (by kernel_rfl) (by decide) (fun _ _ _ h => h.elim) (by assumption) (.inl ⟨?_, fun w => ?_⟩) ?_
        rotate_left 2
        · (simp only [List.getElem?_toArray, List.getElem?_cons_succ, List.getElem?_cons_zero]; rfl)
        · rfl
        · (go_simp; try with_reducible rfl)
        simp only [Act.put, List.setIfInBounds_toArray, List.set_cons_zero, List.set_cons_succ]
        refine till_take0 (i := 23) (oi := ?_) (v := ?_) ?_ (by kernel_rfl) (by kernel_rfl) (by kernel_rfl) (by decide) (fun _ _ _ h => h.elim) (by assumption) (.inl ⟨?_, fun w => ?_⟩) ?_
        rotate_left 2
        · (simp only [List.getElem?_toArray, List.getElem?_cons_succ, List.getElem?_cons_zero]; rfl)
        · rfl
        · (go_simp; try with_reducible rfl)
        simp only [Act.put, List.setIfInBounds_toArray, List.set_cons_zero, List.set_cons_succ]
        refine till_take0 (i := 24) (oi := ?_) (v := ?_) ?_ (by kernel_rfl) (by kernel_rfl) (by kernel_rfl) (by decide) (fun _ _ _ h => h.elim) (by assumption) (.inl ⟨?_, fun w => ?_⟩) ?_
        rotate_left 2
        · (simp only [List.getElem?_toArray, List.getElem?_cons_succ, List.getElem?_cons_zero]; rfl)
        · rfl
        · (go_simp; try with_reducible rfl)
        simp only [Act.put, List.setIfInBounds_toArray, List.set_cons_zero, List.set_cons_succ]
        refine till_take (i := 25) (oi := ?_) (v := ?_) ?_ (by kernel_rfl) (by kernel_rfl) (by kernel_rfl) (by kernel_rfl) (by kernel_rfl) (fun _ _ _ h => h.elim) (by assumption) (.inl ⟨?_, fun w hSw => ?_⟩) ?_
        rotate_left 2
        · (simp only [List.getElem?_toArray, List.getElem?_cons_succ, List.getElem?_cons_zero]; rfl)
        · rfl
        · (have hc : w.cell? ⟨b0, 7, none⟩ = some (.int .u64 (p.photo : Int)) := HC.out w (hSw.right) 7 _ rfl; clear hSw; go_simp; try with_reducible rfl)
        simp only [Act.put, List.setIfInBounds_toArray, List.set_cons_zero, List.set_cons_succ]
        refine till_take0 (i := 28) (oi := ?_) (v := ?_) ?_ (by kernel_rfl) (by kernel_rfl) (by kernel_rfl) (by decide) (fun _ _ _ h => h.elim) (by assumption) (.inl ⟨?_, fun w => ?_⟩) ?_
        rotate_left 2
        · (simp only [List.getElem?_toArray, List.getElem?_cons_succ, List.getElem?_cons_zero]; rfl)
        · rfl
        · (go_simp; try with_reducible rfl)
        simp only [Act.put, List.setIfInBounds_toArray, List.set_cons_zero, List.set_cons_succ]
        refine till_take0 (i := 29) (oi := ?_) (v := ?_) ?_ (by kernel_rfl) (by kernel_rfl) (by kernel_rfl) (by decide) (fun _ _ _ h => h.elim) (by assumption) (.inl ⟨?_, fun w => ?_⟩) ?_
        rotate_left 2
        · (simp only [List.getElem?_toArray, List.getElem?_cons_succ, List.getElem?_cons_zero]; rfl)
        · rfl
        · (go_simp; try with_reducible rfl)
        simp only [Act.put, List.setIfInBounds_toArray, List.set_cons_zero, List.set_cons_succ]
        refine till_take0 (i := 30) (oi := ?_) (v := ?_) ?_ (by kernel_rfl) (by kernel_rfl) (by kernel_rfl) (by decide) (fun _ _ _ h => h.elim) (by assumption) (.inl ⟨?_, fun w => ?_⟩) ?_
        rotate_left 2
        · (simp only [List.getElem?_toArray, List.getElem?_cons_succ, List.getElem?_cons_zero]; rfl)
        · rfl
        · (go_simp; try with_reducible rfl)
        simp only [Act.put, List.setIfInBounds_toArray, List.set_cons_zero, List.set_cons_succ]
        refine till_take (i := 31) (oi := ?_) (v := ?_) ?_ (by kernel_rfl) (by kernel_rfl) (by kernel_rfl) (by kernel_rfl) (by kernel_rfl) (fun _ _ _ h => h.elim) (by assumption) (.inl ⟨?_, fun w hSw => ?_⟩) ?_
        rotate_left 2
        · (simp only [List.getElem?_toArray, List.getElem?_cons_succ, List.getElem?_cons_zero]; rfl)
        · rfl
        · (have hc : w.cell? ⟨b0, 11, none⟩ = some (.bool p.low) := HC.out w (hSw.right) 11 _ rfl; clear hSw; go_simp; try with_reducible rfl)
        simp only [Act.put, List.setIfInBounds_toArray, List.set_cons_zero, List.set_cons_succ]
        refine till_take0 (i := 35) (oi := ?_) (v := ?_) ?_ (by kernel_rfl) (by kernel_rfl) (by kernel_rfl) (by decide) (fun _ _ _ h => h.elim) (by assumption) (.inl ⟨?_, fun w => ?_⟩) ?_
        rotate_left 2
        · (simp only [List.getElem?_toArray, List.getElem?_cons_succ, List.getElem?_cons_zero]; rfl)
        · rfl
        · (go_simp; try with_reducible rfl)
        simp only [Act.put, List.setIfInBounds_toArray, List.set_cons_zero, List.set_cons_succ]
        refine till_take0 (i := 36) (oi := ?_) (v := ?_) ?_ (by kernel_rfl) (by kernel_rfl) (by kernel_rfl) (by decide) (fun _ _ _ h => h.elim) (by assumption) (.inl ⟨?_, fun w => ?_⟩) ?_
        rotate_left 2
        · (simp only [List.getElem?_toArray, List.getElem?_cons_succ, List.getElem?_cons_zero]; rfl)
        · rfl
        · (go_simp; try with_reducible rfl)
        simp only [Act.put, List.setIfInBounds_toArray, List.set_cons_zero, List.set_cons_succ]
        refine till_take (i := 37) (oi := ?_) (v := ?_) ?_ (by kernel_rfl) (by kernel_rfl) (by kernel_rfl) (by kernel_rfl) (by kernel_rfl) (fun _ _ _ h => h.elim) (by assumption) (.inl ⟨?_, fun w hSw => ?_⟩) ?_
        rotate_left 2
        · (simp only [List.getElem?_toArray, List.getElem?_cons_succ, List.getElem?_cons_zero]; rfl)
        · rfl
        · (have hc : w.cell? ⟨b0, 5, none⟩ = some (.int .i64 p.per) := HC.out w (hSw.right) 5 _ rfl; clear hSw; go_simp; try with_reducible rfl)
        simp only [Act.put, List.setIfInBounds_toArray, List.set_cons_zero, List.set_cons_succ]
        refine till_take0 (i := 38) (oi := ?_) (v := ?_) ?_ (by kernel_rfl) (by kernel_rfl) (by kernel_rfl) (by decide) (fun _ _ _ h => h.elim) (by assumption) (.inl ⟨?_, fun w => ?_⟩) ?_
        rotate_left 2
        · (simp only [List.getElem?_toArray, List.getElem?_cons_succ, List.getElem?_cons_zero]; rfl)
        · rfl
        · (go_simp; try with_reducible rfl)
        simp only [Act.put, List.setIfInBounds_toArray, List.set_cons_zero, List.set_cons_succ]
        refine till_take0 (i := 41) (oi := ?_) (v := ?_) ?_ (by kernel_rfl) (by kernel_rfl) (by kernel_rfl) (by decide) (fun _ _ _ h => h.elim) (by assumption) (.inl ⟨?_, fun w => ?_⟩) ?_
        rotate_left 2
        · (simp only [List.getElem?_toArray, List.getElem?_cons_succ, List.getElem?_cons_zero]; rfl)
        · rfl
        · (go_simp; try with_reducible rfl)
        simp only [Act.put, List.setIfInBounds_toArray, List.set_cons_zero, List.set_cons_succ]
        refine till_take0 (i := 42) (oi := ?_) (v := ?_) ?_ (by kernel_rfl) (by kernel_rfl) (by kernel_rfl) (by decide) (fun _ _ _ h => h.elim) (by assumption) (.inl ⟨?_, fun w => ?_⟩) ?_
        rotate_left 2
        · (simp only [List.getElem?_toArray, List.getElem?_cons_succ, List.getElem?_cons_zero]; rfl)
        · rfl
        · (go_simp; try with_reducible rfl)
        simp only [Act.put, List.setIfInBounds_toArray, List.set_cons_zero, List.set_cons_succ]
        refine till_take0 (i := 43) (oi := ?_) (v := ?_) ?_ (by kernel_rfl) (by kernel_rfl) (by kernel_rfl) (by decide) (fun _ _ _ h => h.elim) (by assumption) (.inl ⟨?_, fun w => ?_⟩) ?_
        rotate_left 2
        · (simp only [List.getElem?_toArray, List.getElem?_cons_succ, List.getElem?_cons_zero]; rfl)
        · rfl
        · (go_simp; try with_reducible rfl)
        simp only [Act.put, List.setIfInBounds_toArray, List.set_cons_zero, List.set_cons_succ]
        refine till_take (i := 44) (oi := ?_) (v := ?_) ?_ (by kernel_rfl) (by kernel_rfl) (by kernel_rfl) (by kernel_rfl) (by kernel_rfl) (fun _ _ _ h => h.elim) (by assumption) (.inl ⟨?_, fun w hSw => ?_⟩) ?_
        rotate_left 2
        · (simp only [List.getElem?_toArray, List.getElem?_cons_succ, List.getElem?_cons_zero]; rfl)
        · rfl
        · (have hc : w.cell? ⟨b0, 8, none⟩ = some (.bool p.planar) := HC.out w (hSw.right) 8 _ rfl; clear hSw; go_simp; try with_reducible rfl)
        simp only [Act.put, List.setIfInBounds_toArray, List.set_cons_zero, List.set_cons_succ]
        refine till_take0 (i := 48) (oi := ?_) (v := ?_) ?_ (by kernel_rfl) (by kernel_rfl) (by kernel_rfl) (by decide) (fun _ _ _ h => h.elim) (by assumption) (.inl ⟨?_, fun w => ?_⟩) ?_
        rotate_left 2
        · (simp only [List.getElem?_toArray, List.getElem?_cons_succ, List.getElem?_cons_zero]; rfl)
        · rfl
        · (go_simp; try with_reducible rfl)
        simp only [Act.put, List.setIfInBounds_toArray, List.set_cons_zero, List.set_cons_succ]
        refine till_take0 (i := 49) (oi := ?_) (v := ?_) ?_ (by kernel_rfl) (by kernel_rfl) (by kernel_rfl) (by decide) (fun _ _ _ h => h.elim) (by assumption) (.inl ⟨?_, fun w => ?_⟩) ?_
        rotate_left 2
        · (simp only [List.getElem?_toArray, List.getElem?_cons_succ, List.getElem?_cons_zero]; rfl)
        · rfl
        · (go_simp; try with_reducible rfl)
        simp only [Act.put, List.setIfInBounds_toArray, List.set_cons_zero, List.set_cons_succ]
        refine till_take0 (i := 50) (oi := ?_) (v := ?_) ?_ (by kernel_rfl) (by kernel_rfl) (by kernel_rfl) (by decide) (fun _ _ _ h => h.elim) (by assumption) (.inl ⟨?_, fun w => ?_⟩) ?_
        rotate_left 2
        · (simp only [List.getElem?_toArray, List.getElem?_cons_succ, List.getElem?_cons_zero]; rfl)
        · rfl
        · (go_simp; try with_reducible rfl)
        simp only [Act.put, List.setIfInBounds_toArray, List.set_cons_zero, List.set_cons_succ]
        refine till_take (i := 51) (oi := ?_) (v := ?_) ?_ (by kernel_rfl) (by kernel_rfl) (by kernel_rfl) (by kernel_rfl) (by kernel_rfl) (fun _ _ _ h => h.elim) (by assumption) (.inl ⟨?_, fun w hSw => ?_⟩) ?_
        rotate_left 2
        · (simp only [List.getElem?_toArray, List.getElem?_cons_succ, List.getElem?_cons_zero]; rfl)
        · rfl
        · (have hc : w.cell? ⟨b0, 10, none⟩ = some (.bool p.predict) := HC.out w (hSw.right) 10 _ rfl; clear hSw; go_simp; try with_reducible rfl)
        simp only [Act.put, List.setIfInBounds_toArray, List.set_cons_zero, List.set_cons_succ]
        refine till_itemsB (fun _ h => h) (its := [PItem.row 27 5 (.int .u64 (u64N p.lay.width : Int)), PItem.callOf 6 5 (fun u => .agg #[.int .u16 256, .int .i64 4, u]), PItem.row 27 12 (.int .u64 (u64N p.lay.height : Int)), PItem.callOf 13 12 (fun u => .agg #[.int .u16 257, .int .i64 4, u]), PItem.call 16 (.agg #[.int .u16 258, .int .i64 3, .slice ab m cb]), PItem.row 27 21 (.int .u64 (u64N p.scheme : Int)), PItem.callOf 22 21 (fun u => .agg #[.int .u16 259, .int .i64 3, u]), PItem.row 27 26 (.int .u64 (p.photo : Int)), PItem.callOf 27 26 (fun u => .agg #[.int .u16 262, .int .i64 3, u]), PItem.call 32 (.int .u64 (twoN p.low : Nat)), PItem.rowOf 27 33 32 (.int .u64 (twoN p.low : Nat)), PItem.callOf 34 33 (fun u => .agg #[.int .u16 266, .int .i64 3, u]), PItem.row 27 39 (.int .u64 (u64N p.per : Int)), PItem.callOf 40 39 (fun u => .agg #[.int .u16 277, .int .i64 3, u]), PItem.call 45 (.int .u64 (twoN p.planar : Nat)), PItem.rowOf 27 46 45 (.int .u64 (twoN p.planar : Nat)), PItem.callOf 47 46 (fun u => .agg #[.int .u16 284, .int .i64 3, u]), PItem.call 52 (.int .u64 (twoN p.predict : Nat)), PItem.rowOf 27 53 52 (.int .u64 (twoN p.predict : Nat)), PItem.callOf 54 53 (fun u => .agg #[.int .u16 317, .int .i64 3, u])]) [(5, 5), (6, 5), (12, 12), (13, 12), (16, 16), (21, 21), (22, 21), (26, 26), (27, 26), (32, 32), (33, 32), (34, 33), (39, 39), (40, 39), (45, 45), (46, 45), (47, 46), (52, 52), (53, 52), (54, 53)] [35, 36, 42, 43, 46, 51, 52, 56, 57, 62, 63, 64, 69, 70, 75, 76, 77, 82, 83, 84] 211 rfl rfl (by kernel_rfl) rfl ?_ 2 rfl hSd ?_
        · intro t ht
          simp only [List.mem_cons, List.not_mem_nil, or_false] at ht
          rcases ht with rfl | rfl | rfl | rfl | rfl | rfl | rfl | rfl | rfl | rfl | rfl | rfl | rfl | rfl | rfl | rfl | rfl | rfl | rfl | rfl
          · exact PItem.row_ok elemU64 (i := 5) rfl rfl rfl 34 rfl (by decide) rfl rfl
          · exact PItem.callOf_ok (i := 6) (j := 5) (args := fun u => #[.int .u16 256, .int .i64 4, u]) rfl rfl rfl rfl (by decide) rfl ent_number (by decide) (fun a u ha hu => (map3 _ _ _ _).trans (by rw [show a.eval (.tmp 35) = u from hu]; rfl)) (fun w B u hu h => by
            obtain ⟨z, a', c', rfl⟩ : ∃ z : Value, ∃ a' c', u = .slice a' 1 c' := hu
            exact number_any h _ _ _ _ _)
          · exact PItem.row_ok elemU64 (i := 12) rfl rfl rfl 41 rfl (by decide) rfl rfl
          · exact PItem.callOf_ok (i := 13) (j := 12) (args := fun u => #[.int .u16 257, .int .i64 4, u]) rfl rfl rfl rfl (by decide) rfl ent_number (by decide) (fun a u ha hu => (map3 _ _ _ _).trans (by rw [show a.eval (.tmp 42) = u from hu]; rfl)) (fun w B u hu h => by
            obtain ⟨z, a', c', rfl⟩ : ∃ z : Value, ∃ a' c', u = .slice a' 1 c' := hu
            exact number_any h _ _ _ _ _)
          · exact PItem.call_ok (i := 16) (args := #[.int .u16 258, .int .i64 3, .slice ab m cb]) rfl rfl rfl rfl (by decide) rfl ent_number (fun a ha => (map3 _ _ _ _).trans (by rw [ha 45 (by decide)]; rfl)) (fun w B h => number_any h _ _ _ _ _)
          · exact PItem.row_ok elemU64 (i := 21) rfl rfl rfl 50 rfl (by decide) rfl rfl
          · exact PItem.callOf_ok (i := 22) (j := 21) (args := fun u => #[.int .u16 259, .int .i64 3, u]) rfl rfl rfl rfl (by decide) rfl ent_number (by decide) (fun a u ha hu => (map3 _ _ _ _).trans (by rw [show a.eval (.tmp 51) = u from hu]; rfl)) (fun w B u hu h => by
            obtain ⟨z, a', c', rfl⟩ : ∃ z : Value, ∃ a' c', u = .slice a' 1 c' := hu
            exact number_any h _ _ _ _ _)
          · exact PItem.row_ok elemU64 (i := 26) rfl rfl rfl 55 rfl (by decide) rfl rfl
          · exact PItem.callOf_ok (i := 27) (j := 26) (args := fun u => #[.int .u16 262, .int .i64 3, u]) rfl rfl rfl rfl (by decide) rfl ent_number (by decide) (fun a u ha hu => (map3 _ _ _ _).trans (by rw [show a.eval (.tmp 56) = u from hu]; rfl)) (fun w B u hu h => by
            obtain ⟨z, a', c', rfl⟩ : ∃ z : Value, ∃ a' c', u = .slice a' 1 c' := hu
            exact number_any h _ _ _ _ _)
          · exact PItem.call_ok (i := 32) (args := #[.bool p.low]) rfl rfl rfl rfl (by decide) rfl ent_flag (fun a ha => (map1 _ _).trans (by rw [ha 61 (by decide)]; rfl)) (fun w B h => flag_any h _)
          · exact PItem.rowOf_ok elemU64 (i := 33) (j := 32) rfl rfl rfl rfl (by decide) (fun _ _ h => h) rfl
          · exact PItem.callOf_ok (i := 34) (j := 33) (args := fun u => #[.int .u16 266, .int .i64 3, u]) rfl rfl rfl rfl (by decide) rfl ent_number (by decide) (fun a u ha hu => (map3 _ _ _ _).trans (by rw [show a.eval (.tmp 63) = u from hu]; rfl)) (fun w B u hu h => by
            obtain ⟨z, a', c', rfl⟩ : ∃ z : Value, ∃ a' c', u = .slice a' 1 c' := hu
            exact number_any h _ _ _ _ _)
          · exact PItem.row_ok elemU64 (i := 39) rfl rfl rfl 68 rfl (by decide) rfl rfl
          · exact PItem.callOf_ok (i := 40) (j := 39) (args := fun u => #[.int .u16 277, .int .i64 3, u]) rfl rfl rfl rfl (by decide) rfl ent_number (by decide) (fun a u ha hu => (map3 _ _ _ _).trans (by rw [show a.eval (.tmp 69) = u from hu]; rfl)) (fun w B u hu h => by
            obtain ⟨z, a', c', rfl⟩ : ∃ z : Value, ∃ a' c', u = .slice a' 1 c' := hu
            exact number_any h _ _ _ _ _)
          · exact PItem.call_ok (i := 45) (args := #[.bool p.planar]) rfl rfl rfl rfl (by decide) rfl ent_flag (fun a ha => (map1 _ _).trans (by rw [ha 74 (by decide)]; rfl)) (fun w B h => flag_any h _)
          · exact PItem.rowOf_ok elemU64 (i := 46) (j := 45) rfl rfl rfl rfl (by decide) (fun _ _ h => h) rfl
          · exact PItem.callOf_ok (i := 47) (j := 46) (args := fun u => #[.int .u16 284, .int .i64 3, u]) rfl rfl rfl rfl (by decide) rfl ent_number (by decide) (fun a u ha hu => (map3 _ _ _ _).trans (by rw [show a.eval (.tmp 76) = u from hu]; rfl)) (fun w B u hu h => by
            obtain ⟨z, a', c', rfl⟩ : ∃ z : Value, ∃ a' c', u = .slice a' 1 c' := hu
            exact number_any h _ _ _ _ _)
          · exact PItem.call_ok (i := 52) (args := #[.bool p.predict]) rfl rfl rfl rfl (by decide) rfl ent_flag (fun a ha => (map1 _ _).trans (by rw [ha 81 (by decide)]; rfl)) (fun w B h => flag_any h _)
          · exact PItem.rowOf_ok elemU64 (i := 53) (j := 52) rfl rfl rfl rfl (by decide) (fun _ _ h => h) rfl
          · exact PItem.callOf_ok (i := 54) (j := 53) (args := fun u => #[.int .u16 317, .int .i64 3, u]) rfl rfl rfl rfl (by decide) rfl ent_number (by decide) (fun a u ha hu => (map3 _ _ _ _).trans (by rw [show a.eval (.tmp 83) = u from hu]; rfl)) (fun w B u hu h => by
            obtain ⟨z, a', c', rfl⟩ : ∃ z : Value, ∃ a' c', u = .slice a' 1 c' := hu
            exact number_any h _ _ _ _ _)
        intro vs w9 hR h9
        have r5 := hR (PItem.row 27 5 (.int .u64 (u64N p.lay.width : Int))) (List.mem_of_getElem? (i := 0) rfl)
        have r6 := hR (PItem.callOf 6 5 (fun u => .agg #[.int .u16 256, .int .i64 4, u])) (List.mem_of_getElem? (i := 1) rfl)
        have r12 := hR (PItem.row 27 12 (.int .u64 (u64N p.lay.height : Int))) (List.mem_of_getElem? (i := 2) rfl)
        have r13 := hR (PItem.callOf 13 12 (fun u => .agg #[.int .u16 257, .int .i64 4, u])) (List.mem_of_getElem? (i := 3) rfl)
        have r16 := hR (PItem.call 16 (.agg #[.int .u16 258, .int .i64 3, .slice ab m cb])) (List.mem_of_getElem? (i := 4) rfl)
        have r21 := hR (PItem.row 27 21 (.int .u64 (u64N p.scheme : Int))) (List.mem_of_getElem? (i := 5) rfl)
        have r22 := hR (PItem.callOf 22 21 (fun u => .agg #[.int .u16 259, .int .i64 3, u])) (List.mem_of_getElem? (i := 6) rfl)
        have r26 := hR (PItem.row 27 26 (.int .u64 (p.photo : Int))) (List.mem_of_getElem? (i := 7) rfl)
        have r27 := hR (PItem.callOf 27 26 (fun u => .agg #[.int .u16 262, .int .i64 3, u])) (List.mem_of_getElem? (i := 8) rfl)
        have r32 := hR (PItem.call 32 (.int .u64 (twoN p.low : Nat))) (List.mem_of_getElem? (i := 9) rfl)
        have r33 := hR (PItem.rowOf 27 33 32 (.int .u64 (twoN p.low : Nat))) (List.mem_of_getElem? (i := 10) rfl)
        have r34 := hR (PItem.callOf 34 33 (fun u => .agg #[.int .u16 266, .int .i64 3, u])) (List.mem_of_getElem? (i := 11) rfl)
        have r39 := hR (PItem.row 27 39 (.int .u64 (u64N p.per : Int))) (List.mem_of_getElem? (i := 12) rfl)
        have r40 := hR (PItem.callOf 40 39 (fun u => .agg #[.int .u16 277, .int .i64 3, u])) (List.mem_of_getElem? (i := 13) rfl)
        have r45 := hR (PItem.call 45 (.int .u64 (twoN p.planar : Nat))) (List.mem_of_getElem? (i := 14) rfl)
        have r46 := hR (PItem.rowOf 27 46 45 (.int .u64 (twoN p.planar : Nat))) (List.mem_of_getElem? (i := 15) rfl)
        have r47 := hR (PItem.callOf 47 46 (fun u => .agg #[.int .u16 284, .int .i64 3, u])) (List.mem_of_getElem? (i := 16) rfl)
        have r52 := hR (PItem.call 52 (.int .u64 (twoN p.predict : Nat))) (List.mem_of_getElem? (i := 17) rfl)
        have r53 := hR (PItem.rowOf 27 53 52 (.int .u64 (twoN p.predict : Nat))) (List.mem_of_getElem? (i := 18) rfl)
        have r54 := hR (PItem.callOf 54 53 (fun u => .agg #[.int .u16 317, .int .i64 3, u])) (List.mem_of_getElem? (i := 19) rfl)
        change anyTill _ _ _ _ _ _ _ _ (putsR _ [(35, vs 5), (36, vs 6), (42, vs 12), (43, vs 13), (46, vs 16), (51, vs 21), (52, vs 22), (56, vs 26), (57, vs 27), (62, vs 32), (63, vs 33), (64, vs 34), (69, vs 39), (70, vs 40), (75, vs 45), (76, vs 46), (77, vs 47), (82, vs 52), (83, vs 53), (84, vs 54)]) _
        have h9' : St w0 w9 (prodL [own 27 1 (vs 5) 1 [.int .u64 (u64N p.lay.width : Int)], emp, own 27 1 (vs 12) 1 [.int .u64 (u64N p.lay.height : Int)], emp, emp, own 27 1 (vs 21) 1 [.int .u64 (u64N p.scheme : Int)], emp, own 27 1 (vs 26) 1 [.int .u64 (p.photo : Int)], emp, emp, own 27 1 (vs 33) 1 [.int .u64 (twoN p.low : Nat)], emp, own 27 1 (vs 39) 1 [.int .u64 (u64N p.per : Int)], emp, emp, own 27 1 (vs 46) 1 [.int .u64 (twoN p.planar : Nat)], emp, emp, own 27 1 (vs 53) 1 [.int .u64 (twoN p.predict : Nat)], emp] * (BITS * AA)) := h9
        clear h9 hR
        obtain ⟨a5, c5, e5⟩ : ∃ a c, vs 5 = .slice a 1 c := r5
        have e6 : vs 6 = .agg #[.int .u16 256, .int .i64 4, vs 5] := r6
        obtain ⟨a12, c12, e12⟩ : ∃ a c, vs 12 = .slice a 1 c := r12
        have e13 : vs 13 = .agg #[.int .u16 257, .int .i64 4, vs 12] := r13
        have e16 : vs 16 = .agg #[.int .u16 258, .int .i64 3, .slice ab m cb] := r16
        obtain ⟨a21, c21, e21⟩ : ∃ a c, vs 21 = .slice a 1 c := r21
        have e22 : vs 22 = .agg #[.int .u16 259, .int .i64 3, vs 21] := r22
        obtain ⟨a26, c26, e26⟩ : ∃ a c, vs 26 = .slice a 1 c := r26
        have e27 : vs 27 = .agg #[.int .u16 262, .int .i64 3, vs 26] := r27
        have e32 : vs 32 = .int .u64 (twoN p.low : Nat) := r32
        obtain ⟨a33, c33, e33⟩ : ∃ a c, vs 33 = .slice a 1 c := r33
        have e34 : vs 34 = .agg #[.int .u16 266, .int .i64 3, vs 33] := r34
        obtain ⟨a39, c39, e39⟩ : ∃ a c, vs 39 = .slice a 1 c := r39
        have e40 : vs 40 = .agg #[.int .u16 277, .int .i64 3, vs 39] := r40
        have e45 : vs 45 = .int .u64 (twoN p.planar : Nat) := r45
        obtain ⟨a46, c46, e46⟩ : ∃ a c, vs 46 = .slice a 1 c := r46
        have e47 : vs 47 = .agg #[.int .u16 284, .int .i64 3, vs 46] := r47
        have e52 : vs 52 = .int .u64 (twoN p.predict : Nat) := r52
        obtain ⟨a53, c53, e53⟩ : ∃ a c, vs 53 = .slice a 1 c := r53
        have e54 : vs 54 = .agg #[.int .u16 317, .int .i64 3, vs 53] := r54
        simp only [e5, e6, e12, e13, e16, e21, e22, e26, e27, e32, e33, e34, e39, e40, e45, e46, e47, e52, e53, e54] at h9' ⊢
        clear e54 r54 e53 e52 r52 e47 r47 e46 e45 r45 e40 r40 e39 e34 r34 e33 e32 r32 e27 r27 e26 e22 r22 e21 e16 r16 e13 r13 e12 e6 r6 e5
        simp only [prodL, emp_star, star_emp] at h9'
        simp only [putsR, Act.put, List.setIfInBounds_toArray, List.set_cons_zero, List.set_cons_succ]
        -- END 11
        have h10 := h9'.alloc (.cells #[.int .u16 256, .int .i64 4, .slice a5 1 c5, .int .u16 257, .int .i64 4, .slice a12 1 c12, .int .u16 258, .int .i64 3, .slice ab m cb, .int .u16 259, .int .i64 3, .slice a21 1 c21, .int .u16 262, .int .i64 3, .slice a26 1 c26, .int .u16 266, .int .i64 3, .slice a33 1 c33, .int .u16 277, .int .i64 3, .slice a39 1 c39, .int .u16 284, .int .i64 3, .slice a46 1 c46, .int .u16 317, .int .i64 3, .slice a53 1 c53] 53)
        refine till_one (i := 55) (by kernel_rfl) ?_
        refine wpOp_step (by rfl) fun K hK => ?_
        go_simp
        refine hK _ _ ⟨fun e => h10.right.right, ?_⟩
        clear hK K
        refine till_one (i := 56) (by kernel_rfl) ?_
        refine wpOp_step (by rfl) fun K hK => ?_
        go_simp
        refine hK _ _ ⟨fun e => h10.right.right, ?_⟩
        clear hK K
        refine ⟨(by kernel_rfl), NoPanic.normal ?_⟩
        go_wp2_with fail
        go_meet
        have hbits : BITS = own 27 1 (.slice ab m cb) (bitsR p).length ((bitsR p).map u64v) := by rw [HB.out, bitsR, List.length_replicate, List.map_replicate, HM.out]
        obtain ⟨L9, hL9⟩ : ∃ L9 : List FV, L9 = [(.slice a5 1 c5, ⟨256, 4, [u64N p.lay.width]⟩), (.slice a12 1 c12, ⟨257, 4, [u64N p.lay.height]⟩), (.slice ab m cb, ⟨258, 3, bitsR p⟩), (.slice a21 1 c21, ⟨259, 3, [u64N p.scheme]⟩), (.slice a26 1 c26, ⟨262, 3, [p.photo]⟩), (.slice a33 1 c33, ⟨266, 3, [twoN p.low]⟩), (.slice a39 1 c39, ⟨277, 3, [u64N p.per]⟩), (.slice a46 1 c46, ⟨284, 3, [twoN p.planar]⟩), (.slice a53 1 c53, ⟨317, 3, [twoN p.predict]⟩)] := ⟨_, rfl⟩
        have h11 := h10.own_blk (size := 3) (n := 9) (cap := 9) (xs := L9.flatMap fldC) (Nat.le_refl _) (by decide) rfl (by rw [hL9]; rfl)
        have e9 : L9.length = 9 := by rw [hL9]; rfl
        refine ⟨L9, by rw [hL9]; rfl, FldsS.of_vals ?_⟩
        rw [e9]
        refine h11.perm ?_
        congr 1
        rw [hL9, hbits]
        simp only [valsP, star_emp, List.length_cons, List.length_nil, List.map_cons, List.map_nil, Nat.zero_add]
        ac_rfl
      obtain ⟨L9, hL9, K9, hst, hvl⟩ := hcut
      have HS := Lib.hid hst
      have HV9 := Lib.hid hvl
      have HL9 := Lib.hid hL9
      have hln : L9.length = 9 := by have := congrArg List.length hL9; simpa [fl, base9] using this
      have c9 : wc.cell? ⟨b0, 9, none⟩ = some (.int .i64 p.scheme) := HC.out _ hst.right.right 9 _ rfl
      clear hst hvl hL9
      go_upto_if 88 with (fail)
      generalize hsb : (p.scheme == 3) = sb
      have HSB := Lib.hid hsb
      clear hsb
      go_cut [12, 13] from 89 to 102 (fun x y wx => ∃ L : List FV, fl L = base9 p ++ faxL p al ∧ FldsS w0 wx AA x L)
      case first =>
        cases sb
        rotate_left
        · have hfx : faxL p al = [⟨292, 4, [t4N p al]⟩] := if_pos (by simpa using HSB.out)
          have HFX := Lib.hid hfx
          clear hfx
          obtain ⟨tb, htb⟩ : ∃ tb, tb = p.two := ⟨_, rfl⟩
          have c12 : wc.cell? ⟨b0, 12, none⟩ = some (.bool tb) := by rw [htb]; exact HC.out _ HS.out.right.right 12 _ rfl
          have HTB := Lib.hid htb
          clear htb
          obtain ⟨tn, htn⟩ : ∃ tn : Nat, tn = (if p.two then 1 else 0) := ⟨_, rfl⟩
          obtain ⟨tf, htf⟩ : ∃ tf : Nat, tf = t4N p al := ⟨_, rfl⟩
          have HTN := Lib.hid htn; have HTF := Lib.hid htf
          clear htn htf
          go_upto_if 90 with (fail)
          go_cut [13] from 91 to 92 (fun x wx => x = .int .u64 (tn : Int) ∧ wx = wc)
          case first =>
            cases tb
            · have : tn = 0 := by rw [HTN.out, ← HTB.out]; rfl
              subst this
              go_wp2_with fail
              go_meet
              exact ⟨rfl, rfl⟩
            · have : tn = 1 := by rw [HTN.out, ← HTB.out]; rfl
              subst this
              go_wp2_with fail
              go_meet
              exact ⟨rfl, rfl⟩
          obtain ⟨rfl, rfl⟩ := hcut
          go_upto_if 93 with (fail)
          go_cut [13] from 94 to 95 (fun x wx => x = .int .u64 (tf : Int) ∧ wx = wc)
          case first =>
            have h01 : tn = 0 ∨ tn = 1 := by rw [HTN.out]; split <;> simp
            have htf : tf = tn + (if al then 4 else 0) := by rw [HTF.out, HTN.out]; rfl
            rcases h01 with rfl | rfl
            · cases al
              · obtain rfl : tf = 0 := by simpa using htf
                clear htf
                go_wp2_with fail
                go_meet
                exact ⟨rfl, rfl⟩
              · obtain rfl : tf = 4 := by simpa using htf
                clear htf
                go_wp2_with fail
                go_meet
                exact ⟨rfl, rfl⟩
            · cases al
              · obtain rfl : tf = 1 := by simpa using htf
                clear htf
                go_wp2_with fail
                go_meet
                exact ⟨rfl, rfl⟩
              · obtain rfl : tf = 5 := by simpa using htf
                clear htf
                go_wp2_with fail
                go_meet
                exact ⟨rfl, rfl⟩
          obtain ⟨rfl, rfl⟩ := hcut
          have H13 := Lib.hid ((HS.out.alloc (.cells #[.int .u64 (tf : Int)] 27)).own_blk (size := 1) (n := 1) (cap := 1) (xs := [.int .u64 (tf : Int)]) (Nat.le_refl 1) (by decide) rfl rfl)
          have hent := ent_number
          have TF := elemFld
          go_wp2_with fail
          refine (number_any H13.out 292 4 _ 1 1).mono ?_
          rintro e w1 ⟨rfl, h1⟩
          generalize wc.heap.size = g1 at *
          have H14 := Lib.hid ((h1.alloc (.cells #[.int .u16 292, .int .i64 4, .slice (some ⟨g1, 0, none⟩) 1 1] 53)).own_blk (size := 3) (n := 1) (cap := 1) (xs := fldC (.slice (some ⟨g1, 0, none⟩) 1 1, ⟨292, 4, [tf]⟩)) (Nat.le_refl 1) (by decide) rfl rfl)
          have H15 := Lib.hid h1
          clear h1 H13
          go_wp2_with (at_builtin; apply stop)
          refine on (wpList_append_sep TF rfl _ _ rfl rfl (H14.out.perm (show _ = own 53 3 u12 L9.length (L9.flatMap fldC) * (own 53 3 (.slice (some ⟨w1.heap.size, 0, none⟩) 1 1) 1 (fldC (.slice (some ⟨g1, 0, none⟩) 1 1, ⟨292, 4, [tf]⟩)) * (own 27 1 (.slice (some ⟨g1, 0, none⟩) 1 1) 1 [.int .u64 (tf : Int)] * (K9 * AA))) by ac_rfl)) rfl (m := 1) H14.out.reads fldC_one (by rw [hln]; unfold maxLen; omega) (by rw [hln]; omega) ?_)
          intro v' w' h7 _
          have H7 := Lib.hid h7
          clear h7
          go_wp2_with fail
          go_meet
          exact ⟨L9 ++ [(.slice (some ⟨g1, 0, none⟩) 1 1, ⟨292, 4, [tf]⟩)], by rw [fl, List.map_append, ← fl, HL9.out, HFX.out, ← HTF.out]; rfl, FldsS.snoc H7.out HV9.out⟩
        · have hfx : faxL p al = [] := if_neg (by simpa using HSB.out)
          have HFX := Lib.hid hfx
          clear hfx
          go_wp2_with fail
          go_meet
          exact ⟨L9, by rw [HL9.out, HFX.out, List.append_nil], K9, HS.out, HV9.out⟩
      obtain ⟨L10, hL10, K10, hst, hvl⟩ := hcut
      clear HS HV9
      have HS := Lib.hid hst
      have HV10 := Lib.hid hvl
      have hln2 : L10.length ≤ 10 := by
        have := congrArg List.length hL10
        rw [fl, List.length_map, List.length_append] at this
        rw [this]
        unfold base9 faxL
        split <;> simp
      have HL10 := Lib.hid hL10
      obtain ⟨tl, htl⟩ : ∃ tl, tl = p.lay.tiled := ⟨_, rfl⟩
      have c2 : wc.cell? ⟨b0, 2, none⟩ = some (.bool tl) := by rw [htl]; exact HC.out _ hst.right.right 2 _ rfl
      have HTL := Lib.hid htl
      clear hst hvl hL10 htl HL9 hln HSB
      go_upto_if 105 with (fail)
      go_cut [12] from 106 to 152 (fun x wx => ∃ L : List FV, fl L = baseL p al lg ∧ FldsS w0 wx AA x L)
      case first =>
        cases tl
        · go_upto_region 21 with (fail)
          have q5 := wrap_u64N p.lay.w
          have q6 := wrap_u64N p.lay.h
          have hSd := HS.out.drew
          refine wp_region_noPanic ?_
          refine region_till (S := fun W : World => St w0 W (AA)) (k := 20) (by kernel_rfl) ?_
          have hS : St w0 _ (AA) := (fun w (h : St w0 w (own 53 3 u12 L10.length (L10.flatMap fldC) * (K10 * AA))) => h.right.right) _ hSd
          refine till_take0 (i := 0) (oi := ?_) (v := ?_) ?_ (by kernel_rfl) (by kernel_rfl) (by kernel_rfl) (by decide) (fun _ _ _ h => h.elim) (by assumption) (.inl ⟨?_, fun w => ?_⟩) ?_
          rotate_left 2
          · (simp only [List.getElem?_toArray, List.getElem?_cons_succ, List.getElem?_cons_zero]; rfl)
          · rfl
          · (go_simp; try with_reducible rfl)
          simp only [Act.put, List.setIfInBounds_toArray, List.set_cons_zero, List.set_cons_succ]
          refine till_take0 (i := 1) (oi := ?_) (v := ?_) ?_ (by kernel_rfl) (by kernel_rfl) (by kernel_rfl) (by decide) (fun _ _ _ h => h.elim) (by assumption) (.inl ⟨?_, fun w => ?_⟩) ?_
          rotate_left 2
          · (simp only [List.getElem?_toArray, List.getElem?_cons_succ, List.getElem?_cons_zero]; rfl)
          · rfl
          · (go_simp; try with_reducible rfl)
          simp only [Act.put, List.setIfInBounds_toArray, List.set_cons_zero, List.set_cons_succ]
          refine till_take0 (i := 2) (oi := ?_) (v := ?_) ?_ (by kernel_rfl) (by kernel_rfl) (by kernel_rfl) (by decide) (fun _ _ _ h => h.elim) (by assumption) (.inl ⟨?_, fun w => ?_⟩) ?_
          rotate_left 2
          · (simp only [List.getElem?_toArray, List.getElem?_cons_succ, List.getElem?_cons_zero]; rfl)
          · rfl
          · (go_simp; try with_reducible rfl)
          simp only [Act.put, List.setIfInBounds_toArray, List.set_cons_zero, List.set_cons_succ]
          refine till_take0 (i := 3) (oi := ?_) (v := ?_) ?_ (by kernel_rfl) (by kernel_rfl) (by kernel_rfl) (by decide) (fun _ _ _ h => h.elim) (by assumption) (.inl ⟨?_, fun w => ?_⟩) ?_
          rotate_left 2
          · (simp only [List.getElem?_toArray, List.getElem?_cons_succ, List.getElem?_cons_zero]; rfl)
          · rfl
          · (go_simp; try with_reducible rfl)
          simp only [Act.put, List.setIfInBounds_toArray, List.set_cons_zero, List.set_cons_succ]
          refine till_take (i := 4) (oi := ?_) (v := ?_) ?_ (by kernel_rfl) (by kernel_rfl) (by kernel_rfl) (by kernel_rfl) (by kernel_rfl) (fun _ _ _ h => h.elim) (by assumption) (.inl ⟨?_, fun w hSw => ?_⟩) ?_
          rotate_left 2
          · (simp only [List.getElem?_toArray, List.getElem?_cons_succ, List.getElem?_cons_zero]; rfl)
          · rfl
          · (have hc : w.cell? ⟨b0, 4, none⟩ = some (.int .i64 p.lay.h) := HC.out w (hSw) 4 _ rfl; clear hSw; go_simp; try with_reducible rfl)
          simp only [Act.put, List.setIfInBounds_toArray, List.set_cons_zero, List.set_cons_succ]
          refine till_take0 (i := 5) (oi := ?_) (v := ?_) ?_ (by kernel_rfl) (by kernel_rfl) (by kernel_rfl) (by decide) (fun _ _ _ h => h.elim) (by assumption) (.inl ⟨?_, fun w => ?_⟩) ?_
          rotate_left 2
          · (simp only [List.getElem?_toArray, List.getElem?_cons_succ, List.getElem?_cons_zero]; rfl)
          · rfl
          · (go_simp; try with_reducible rfl)
          simp only [Act.put, List.setIfInBounds_toArray, List.set_cons_zero, List.set_cons_succ]
          refine till_take0 (i := 8) (oi := ?_) (v := ?_) ?_ (by kernel_rfl) (by kernel_rfl) (by kernel_rfl) (by decide) (fun _ _ _ h => h.elim) (by assumption) (.inl ⟨?_, fun w => ?_⟩) ?_
          rotate_left 2
          · (simp only [List.getElem?_toArray, List.getElem?_cons_succ, List.getElem?_cons_zero]; rfl)
          · rfl
          · (go_simp; try with_reducible rfl)
          simp only [Act.put, List.setIfInBounds_toArray, List.set_cons_zero, List.set_cons_succ]
          refine till_take0 (i := 9) (oi := ?_) (v := ?_) ?_ (by kernel_rfl) (by kernel_rfl) (by kernel_rfl) (by decide) (fun _ _ _ h => h.elim) (by assumption) (.inl ⟨?_, fun w => ?_⟩) ?_
          rotate_left 2
          · (simp only [List.getElem?_toArray, List.getElem?_cons_succ, List.getElem?_cons_zero]; rfl)
          · rfl
          · (go_simp; try with_reducible rfl)
          simp only [Act.put, List.setIfInBounds_toArray, List.set_cons_zero, List.set_cons_succ]
          refine till_take0 (i := 10) (oi := ?_) (v := ?_) ?_ (by kernel_rfl) (by kernel_rfl) (by kernel_rfl) (by decide) (fun _ _ _ h => h.elim) (by assumption) (.inl ⟨?_, fun w => ?_⟩) ?_
          rotate_left 2
          · (simp only [List.getElem?_toArray, List.getElem?_cons_succ, List.getElem?_cons_zero]; rfl)
          · rfl
          · (go_simp; try with_reducible rfl)
          simp only [Act.put, List.setIfInBounds_toArray, List.set_cons_zero, List.set_cons_succ]
          refine till_take (i := 11) (oi := ?_) (v := ?_) ?_ (by kernel_rfl) (by kernel_rfl) (by kernel_rfl) (by kernel_rfl) (by kernel_rfl) (fun _ _ _ h => h.elim) (by assumption) (.inl ⟨?_, fun w hSw => ?_⟩) ?_
          rotate_left 2
          · (simp only [List.getElem?_toArray, List.getElem?_cons_succ, List.getElem?_cons_zero]; rfl)
          · rfl
          · (have hc : w.cell? ⟨b0, 13, none⟩ = some (.slice ao no co) := HC.out w (hSw) 13 _ rfl; clear hSw; go_simp; try with_reducible rfl)
          simp only [Act.put, List.setIfInBounds_toArray, List.set_cons_zero, List.set_cons_succ]
          refine till_take0 (i := 13) (oi := ?_) (v := ?_) ?_ (by kernel_rfl) (by kernel_rfl) (by kernel_rfl) (by decide) (fun _ _ _ h => h.elim) (by assumption) (.inl ⟨?_, fun w => ?_⟩) ?_
          rotate_left 2
          · (simp only [List.getElem?_toArray, List.getElem?_cons_succ, List.getElem?_cons_zero]; rfl)
          · rfl
          · (go_simp; try with_reducible rfl)
          simp only [Act.put, List.setIfInBounds_toArray, List.set_cons_zero, List.set_cons_succ]
          refine till_take0 (i := 14) (oi := ?_) (v := ?_) ?_ (by kernel_rfl) (by kernel_rfl) (by kernel_rfl) (by decide) (fun _ _ _ h => h.elim) (by assumption) (.inl ⟨?_, fun w => ?_⟩) ?_
          rotate_left 2
          · (simp only [List.getElem?_toArray, List.getElem?_cons_succ, List.getElem?_cons_zero]; rfl)
          · rfl
          · (go_simp; try with_reducible rfl)
          simp only [Act.put, List.setIfInBounds_toArray, List.set_cons_zero, List.set_cons_succ]
          refine till_take0 (i := 15) (oi := ?_) (v := ?_) ?_ (by kernel_rfl) (by kernel_rfl) (by kernel_rfl) (by decide) (fun _ _ _ h => h.elim) (by assumption) (.inl ⟨?_, fun w => ?_⟩) ?_
          rotate_left 2
          · (simp only [List.getElem?_toArray, List.getElem?_cons_succ, List.getElem?_cons_zero]; rfl)
          · rfl
          · (go_simp; try with_reducible rfl)
          simp only [Act.put, List.setIfInBounds_toArray, List.set_cons_zero, List.set_cons_succ]
          refine till_take (i := 16) (oi := ?_) (v := ?_) ?_ (by kernel_rfl) (by kernel_rfl) (by kernel_rfl) (by kernel_rfl) (by kernel_rfl) (fun _ _ _ h => h.elim) (by assumption) (.inl ⟨?_, fun w hSw => ?_⟩) ?_
          rotate_left 2
          · (simp only [List.getElem?_toArray, List.getElem?_cons_succ, List.getElem?_cons_zero]; rfl)
          · rfl
          · (have hc : w.cell? ⟨b0, 14, none⟩ = some (.slice ac nc cc) := HC.out w (hSw) 14 _ rfl; clear hSw; go_simp; try with_reducible rfl)
          simp only [Act.put, List.setIfInBounds_toArray, List.set_cons_zero, List.set_cons_succ]
          refine till_itemsB (fun w (h : St w0 w (own 53 3 u12 L10.length (L10.flatMap fldC) * (K10 * AA))) => h.right.right) (its := [PItem.row 27 6 (.int .u64 (u64N p.lay.h : Int)), PItem.callOf 7 6 (fun u => .agg #[.int .u16 278, .int .i64 4, u]), PItem.call 12 (.agg #[.int .u16 273, .int .i64 (wideK lg), .slice ao no co]), PItem.call 17 (.agg #[.int .u16 279, .int .i64 (wideK lg), .slice ac nc cc])]) [(6, 6), (7, 6), (12, 12), (17, 17)] [139, 140, 145, 150] 211 rfl rfl (by kernel_rfl) rfl ?_ 3 rfl hSd ?_
          · intro t ht
            simp only [List.mem_cons, List.not_mem_nil, or_false] at ht
            rcases ht with rfl | rfl | rfl | rfl
            · exact PItem.row_ok elemU64 (i := 6) rfl rfl rfl 138 rfl (by decide) rfl rfl
            · exact PItem.callOf_ok (i := 7) (j := 6) (args := fun u => #[.int .u16 278, .int .i64 4, u]) rfl rfl rfl rfl (by decide) rfl ent_number (by decide) (fun a u ha hu => (map3 _ _ _ _).trans (by rw [show a.eval (.tmp 139) = u from hu]; rfl)) (fun w B u hu h => by
              obtain ⟨z, a', c', rfl⟩ : ∃ z : Value, ∃ a' c', u = .slice a' 1 c' := hu
              exact number_any h _ _ _ _ _)
            · exact PItem.call_ok (i := 12) (args := #[.int .u16 273, .int .i64 (wideK lg), .slice ao no co]) rfl rfl rfl rfl (by decide) rfl ent_number (fun a ha => (map3 _ _ _ _).trans (by rw [ha 142 (by decide), ha 144 (by decide)]; rfl)) (fun w B h => number_any h _ _ _ _ _)
            · exact PItem.call_ok (i := 17) (args := #[.int .u16 279, .int .i64 (wideK lg), .slice ac nc cc]) rfl rfl rfl rfl (by decide) rfl ent_number (fun a ha => (map3 _ _ _ _).trans (by rw [ha 147 (by decide), ha 149 (by decide)]; rfl)) (fun w B h => number_any h _ _ _ _ _)
          intro vs w9 hR h9
          have r6 := hR (PItem.row 27 6 (.int .u64 (u64N p.lay.h : Int))) (List.mem_of_getElem? (i := 0) rfl)
          have r7 := hR (PItem.callOf 7 6 (fun u => .agg #[.int .u16 278, .int .i64 4, u])) (List.mem_of_getElem? (i := 1) rfl)
          have r12 := hR (PItem.call 12 (.agg #[.int .u16 273, .int .i64 (wideK lg), .slice ao no co])) (List.mem_of_getElem? (i := 2) rfl)
          have r17 := hR (PItem.call 17 (.agg #[.int .u16 279, .int .i64 (wideK lg), .slice ac nc cc])) (List.mem_of_getElem? (i := 3) rfl)
          change anyTill _ _ _ _ _ _ _ _ (putsR _ [(139, vs 6), (140, vs 7), (145, vs 12), (150, vs 17)]) _
          have h9' : St w0 w9 (prodL [own 27 1 (vs 6) 1 [.int .u64 (u64N p.lay.h : Int)], emp, emp, emp] * (own 53 3 u12 L10.length (L10.flatMap fldC) * (K10 * AA))) := h9
          clear h9 hR
          obtain ⟨a6, c6, e6⟩ : ∃ a c, vs 6 = .slice a 1 c := r6
          have e7 : vs 7 = .agg #[.int .u16 278, .int .i64 4, vs 6] := r7
          have e12 : vs 12 = .agg #[.int .u16 273, .int .i64 (wideK lg), .slice ao no co] := r12
          have e17 : vs 17 = .agg #[.int .u16 279, .int .i64 (wideK lg), .slice ac nc cc] := r17
          simp only [e6, e7, e12, e17] at h9' ⊢
          clear e17 r17 e12 r12 e7 r7 e6
          simp only [prodL, emp_star, star_emp] at h9'
          simp only [putsR, Act.put, List.setIfInBounds_toArray, List.set_cons_zero, List.set_cons_succ]
          obtain ⟨M, hM⟩ : ∃ M : List FV, M = [(.slice a6 1 c6, ⟨278, 4, [u64N p.lay.h]⟩), (.slice ao no co, ⟨273, wideK lg, p.offs⟩), (.slice ac nc cc, ⟨279, wideK lg, p.cnts⟩)] := ⟨_, rfl⟩
          have h10 := (h9'.alloc (.cells #[.int .u16 278, .int .i64 4, .slice a6 1 c6, .int .u16 273, .int .i64 (wideK lg), .slice ao no co, .int .u16 279, .int .i64 (wideK lg), .slice ac nc cc] 53)).own_blk (size := 3) (n := 3) (cap := 3) (xs := M.flatMap fldC) (Nat.le_refl _) (by decide) rfl (by rw [hM]; rfl)
          have hfM : fl M = cutL p lg := by rw [hM, cutL, ← HTL.out]; rfl
          have eM : M.length = 3 := by rw [hM]; rfl
          have hMv : ∀ y ∈ M, ∀ X w, St w0 w (X * (own 27 1 (.slice a6 1 c6) 1 [.int .u64 (u64N p.lay.h : Int)] * (K10 * AA))) → Reads w 1 y.1 y.2.vals.length (y.2.vals.map u64v) := by
            intro y hy X w hw
            have hF := HA.out w ((hw.right.right.right.perm HAA.out).right)
            rw [hM] at hy
            simp only [List.mem_cons, List.not_mem_nil, or_false] at hy
            rcases hy with rfl | rfl | rfl
            · exact hw.right.reads
            · exact hF.offs
            · exact hF.cnts
          have HMV := Lib.hid hMv
          clear hMv
          refine till_one (i := 18) (by kernel_rfl) ?_
          refine wpOp_step (by rfl) fun K hK => ?_
          go_simp
          refine hK _ _ ⟨fun e => h10.right.right.right.right, ?_⟩
          clear hK K
          have H11 := Lib.hid (h10.perm (show _ = (own 53 3 u12 L10.length (L10.flatMap fldC)) * (own 53 3 (.slice (some ⟨w9.heap.size, 0, none⟩) 3 3) 3 (M.flatMap fldC) * (own 27 1 (.slice a6 1 c6) 1 [.int .u64 (u64N p.lay.h : Int)] * (K10 * AA))) by ac_rfl))
          have HX := Lib.hid h10.reads
          clear h10
          generalize hgg : w9.heap.size = g8 at *
          generalize hww : w9.alloc _ = W8 at *
          clear hgg hww h9'
          have TF := elemFld
          refine till_one (i := 19) (by kernel_rfl) ?_
          refine wpOp_step (by rfl) fun K hK => ?_
          refine step_append_L TF rfl _ _ rfl rfl (stl2 H11.out) 0 rfl (x := .slice (some ⟨g8, 0, none⟩) 3 3) rfl (m := 3) (news := M.flatMap fldC) HX.out (ones_fld (by rw [hM]; intro y hy; simp only [List.mem_cons, List.not_mem_nil, or_false] at hy; rcases hy with rfl | rfl | rfl <;> rfl)) (by unfold maxLen; omega) (by omega) fun v9 W9 h90 _ => ?_
          have h9 := stl2_out h90
          refine hK _ _ ⟨fun e => h9.right.right.right.right, ?_⟩
          clear hK K h90
          refine till_one (i := 20) (by kernel_rfl) ?_
          refine wpOp_step (by rfl) fun K hK => ?_
          go_simp
          refine hK _ _ ⟨fun e => (by first | exact absurd e (by decide) | (simp at e)), ?_⟩
          clear hK K
          have H12 := Lib.hid h9
          clear h9
          refine ⟨(by kernel_rfl), NoPanic.normal ?_⟩
          go_wp2_with fail
          go_meet
          refine ⟨L10 ++ M, by rw [fl, List.map_append, ← fl, ← fl, HL10.out, hfM]; rfl, FldsS.app (X := own 53 3 (.slice (some ⟨g8, 0, none⟩) 3 3) 3 (M.flatMap fldC) * own 27 1 (.slice a6 1 c6) 1 [.int .u64 (u64N p.lay.h : Int)]) (K := K10) ?_ HV10.out fun y hy w hw => HMV.out y hy _ w (hw.perm (star_assoc _ _ _))⟩
          rw [eM]
          exact H12.out.perm (by ac_rfl)
        · go_upto_region 20 with (fail)
          have q5 := wrap_u64N p.lay.w
          have q6 := wrap_u64N p.lay.h
          have hSd := HS.out.drew
          refine wp_region_noPanic ?_
          refine region_till (S := fun W : World => St w0 W (AA)) (k := 27) (by kernel_rfl) ?_
          have hS : St w0 _ (AA) := (fun w (h : St w0 w (own 53 3 u12 L10.length (L10.flatMap fldC) * (K10 * AA))) => h.right.right) _ hSd
          refine till_take0 (i := 0) (oi := ?_) (v := ?_) ?_ (by kernel_rfl) (by kernel_rfl) (by kernel_rfl) (by decide) (fun _ _ _ h => h.elim) (by assumption) (.inl ⟨?_, fun w => ?_⟩) ?_
          rotate_left 2
          · (simp only [List.getElem?_toArray, List.getElem?_cons_succ, List.getElem?_cons_zero]; rfl)
          · rfl
          · (go_simp; try with_reducible rfl)
          simp only [Act.put, List.setIfInBounds_toArray, List.set_cons_zero, List.set_cons_succ]
          refine till_take0 (i := 1) (oi := ?_) (v := ?_) ?_ (by kernel_rfl) (by kernel_rfl) (by kernel_rfl) (by decide) (fun _ _ _ h => h.elim) (by assumption) (.inl ⟨?_, fun w => ?_⟩) ?_
          rotate_left 2
          · (simp only [List.getElem?_toArray, List.getElem?_cons_succ, List.getElem?_cons_zero]; rfl)
          · rfl
          · (go_simp; try with_reducible rfl)
          simp only [Act.put, List.setIfInBounds_toArray, List.set_cons_zero, List.set_cons_succ]
          refine till_take0 (i := 2) (oi := ?_) (v := ?_) ?_ (by kernel_rfl) (by kernel_rfl) (by kernel_rfl) (by decide) (fun _ _ _ h => h.elim) (by assumption) (.inl ⟨?_, fun w => ?_⟩) ?_
          rotate_left 2
          · (simp only [List.getElem?_toArray, List.getElem?_cons_succ, List.getElem?_cons_zero]; rfl)
          · rfl
          · (go_simp; try with_reducible rfl)
          simp only [Act.put, List.setIfInBounds_toArray, List.set_cons_zero, List.set_cons_succ]
          refine till_take0 (i := 3) (oi := ?_) (v := ?_) ?_ (by kernel_rfl) (by kernel_rfl) (by kernel_rfl) (by decide) (fun _ _ _ h => h.elim) (by assumption) (.inl ⟨?_, fun w => ?_⟩) ?_
          rotate_left 2
          · (simp only [List.getElem?_toArray, List.getElem?_cons_succ, List.getElem?_cons_zero]; rfl)
          · rfl
          · (go_simp; try with_reducible rfl)
          simp only [Act.put, List.setIfInBounds_toArray, List.set_cons_zero, List.set_cons_succ]
          refine till_take (i := 4) (oi := ?_) (v := ?_) ?_ (by kernel_rfl) (by kernel_rfl) (by kernel_rfl) (by kernel_rfl) (by kernel_rfl) (fun _ _ _ h => h.elim) (by assumption) (.inl ⟨?_, fun w hSw => ?_⟩) ?_
          rotate_left 2
          · (simp only [List.getElem?_toArray, List.getElem?_cons_succ, List.getElem?_cons_zero]; rfl)
          · rfl
          · (have hc : w.cell? ⟨b0, 3, none⟩ = some (.int .i64 p.lay.w) := HC.out w (hSw) 3 _ rfl; clear hSw; go_simp; try with_reducible rfl)
          simp only [Act.put, List.setIfInBounds_toArray, List.set_cons_zero, List.set_cons_succ]
          refine till_take0 (i := 5) (oi := ?_) (v := ?_) ?_ (by kernel_rfl) (by kernel_rfl) (by kernel_rfl) (by decide) (fun _ _ _ h => h.elim) (by assumption) (.inl ⟨?_, fun w => ?_⟩) ?_
          rotate_left 2
          · (simp only [List.getElem?_toArray, List.getElem?_cons_succ, List.getElem?_cons_zero]; rfl)
          · rfl
          · (go_simp; try with_reducible rfl)
          simp only [Act.put, List.setIfInBounds_toArray, List.set_cons_zero, List.set_cons_succ]
          refine till_take0 (i := 8) (oi := ?_) (v := ?_) ?_ (by kernel_rfl) (by kernel_rfl) (by kernel_rfl) (by decide) (fun _ _ _ h => h.elim) (by assumption) (.inl ⟨?_, fun w => ?_⟩) ?_
          rotate_left 2
          · (simp only [List.getElem?_toArray, List.getElem?_cons_succ, List.getElem?_cons_zero]; rfl)
          · rfl
          · (go_simp; try with_reducible rfl)
          simp only [Act.put, List.setIfInBounds_toArray, List.set_cons_zero, List.set_cons_succ]
          refine till_take0 (i := 9) (oi := ?_) (v := ?_) ?_ (by kernel_rfl) (by kernel_rfl) (by kernel_rfl) (by decide) (fun _ _ _ h => h.elim) (by assumption) (.inl ⟨?_, fun w => ?_⟩) ?_
          rotate_left 2
          · (simp only [List.getElem?_toArray, List.getElem?_cons_succ, List.getElem?_cons_zero]; rfl)
          · rfl
          · (go_simp; try with_reducible rfl)
          simp only [Act.put, List.setIfInBounds_toArray, List.set_cons_zero, List.set_cons_succ]
          refine till_take0 (i := 10) (oi := ?_) (v := ?_) ?_ (by kernel_rfl) (by kernel_rfl) (by kernel_rfl) (by decide) (fun _ _ _ h => h.elim) (by assumption) (.inl ⟨?_, fun w => ?_⟩) ?_
          rotate_left 2
          · (simp only [List.getElem?_toArray, List.getElem?_cons_succ, List.getElem?_cons_zero]; rfl)
          · rfl
          · (go_simp; try with_reducible rfl)
          simp only [Act.put, List.setIfInBounds_toArray, List.set_cons_zero, List.set_cons_succ]
          refine till_take (i := 11) (oi := ?_) (v := ?_) ?_ (by kernel_rfl) (by kernel_rfl) (by kernel_rfl) (by kernel_rfl) (by kernel_rfl) (fun _ _ _ h => h.elim) (by assumption) (.inl ⟨?_, fun w hSw => ?_⟩) ?_
          rotate_left 2
          · (simp only [List.getElem?_toArray, List.getElem?_cons_succ, List.getElem?_cons_zero]; rfl)
          · rfl
          · (have hc : w.cell? ⟨b0, 4, none⟩ = some (.int .i64 p.lay.h) := HC.out w (hSw) 4 _ rfl; clear hSw; go_simp; try with_reducible rfl)
          simp only [Act.put, List.setIfInBounds_toArray, List.set_cons_zero, List.set_cons_succ]
          refine till_take0 (i := 12) (oi := ?_) (v := ?_) ?_ (by kernel_rfl) (by kernel_rfl) (by kernel_rfl) (by decide) (fun _ _ _ h => h.elim) (by assumption) (.inl ⟨?_, fun w => ?_⟩) ?_
          rotate_left 2
          · (simp only [List.getElem?_toArray, List.getElem?_cons_succ, List.getElem?_cons_zero]; rfl)
          · rfl
          · (go_simp; try with_reducible rfl)
          simp only [Act.put, List.setIfInBounds_toArray, List.set_cons_zero, List.set_cons_succ]
          refine till_take0 (i := 15) (oi := ?_) (v := ?_) ?_ (by kernel_rfl) (by kernel_rfl) (by kernel_rfl) (by decide) (fun _ _ _ h => h.elim) (by assumption) (.inl ⟨?_, fun w => ?_⟩) ?_
          rotate_left 2
          · (simp only [List.getElem?_toArray, List.getElem?_cons_succ, List.getElem?_cons_zero]; rfl)
          · rfl
          · (go_simp; try with_reducible rfl)
          simp only [Act.put, List.setIfInBounds_toArray, List.set_cons_zero, List.set_cons_succ]
          refine till_take0 (i := 16) (oi := ?_) (v := ?_) ?_ (by kernel_rfl) (by kernel_rfl) (by kernel_rfl) (by decide) (fun _ _ _ h => h.elim) (by assumption) (.inl ⟨?_, fun w => ?_⟩) ?_
          rotate_left 2
          · (simp only [List.getElem?_toArray, List.getElem?_cons_succ, List.getElem?_cons_zero]; rfl)
          · rfl
          · (go_simp; try with_reducible rfl)
          simp only [Act.put, List.setIfInBounds_toArray, List.set_cons_zero, List.set_cons_succ]
          refine till_take0 (i := 17) (oi := ?_) (v := ?_) ?_ (by kernel_rfl) (by kernel_rfl) (by kernel_rfl) (by decide) (fun _ _ _ h => h.elim) (by assumption) (.inl ⟨?_, fun w => ?_⟩) ?_
          rotate_left 2
          · (simp only [List.getElem?_toArray, List.getElem?_cons_succ, List.getElem?_cons_zero]; rfl)
          · rfl
          · (go_simp; try with_reducible rfl)
          simp only [Act.put, List.setIfInBounds_toArray, List.set_cons_zero, List.set_cons_succ]
          refine till_take (i := 18) (oi := ?_) (v := ?_) ?_ (by kernel_rfl) (by kernel_rfl) (by kernel_rfl) (by kernel_rfl) (by kernel_rfl) (fun _ _ _ h => h.elim) (by assumption) (.inl ⟨?_, fun w hSw => ?_⟩) ?_
          rotate_left 2
          · (simp only [List.getElem?_toArray, List.getElem?_cons_succ, List.getElem?_cons_zero]; rfl)
          · rfl
          · (have hc : w.cell? ⟨b0, 13, none⟩ = some (.slice ao no co) := HC.out w (hSw) 13 _ rfl; clear hSw; go_simp; try with_reducible rfl)
          simp only [Act.put, List.setIfInBounds_toArray, List.set_cons_zero, List.set_cons_succ]
          refine till_take0 (i := 20) (oi := ?_) (v := ?_) ?_ (by kernel_rfl) (by kernel_rfl) (by kernel_rfl) (by decide) (fun _ _ _ h => h.elim) (by assumption) (.inl ⟨?_, fun w => ?_⟩) ?_
          rotate_left 2
          · (simp only [List.getElem?_toArray, List.getElem?_cons_succ, List.getElem?_cons_zero]; rfl)
          · rfl
          · (go_simp; try with_reducible rfl)
          simp only [Act.put, List.setIfInBounds_toArray, List.set_cons_zero, List.set_cons_succ]
          refine till_take0 (i := 21) (oi := ?_) (v := ?_) ?_ (by kernel_rfl) (by kernel_rfl) (by kernel_rfl) (by decide) (fun _ _ _ h => h.elim) (by assumption) (.inl ⟨?_, fun w => ?_⟩) ?_
          rotate_left 2
          · (simp only [List.getElem?_toArray, List.getElem?_cons_succ, List.getElem?_cons_zero]; rfl)
          · rfl
          · (go_simp; try with_reducible rfl)
          simp only [Act.put, List.setIfInBounds_toArray, List.set_cons_zero, List.set_cons_succ]
          refine till_take0 (i := 22) (oi := ?_) (v := ?_) ?_ (by kernel_rfl) (by kernel_rfl) (by kernel_rfl) (by decide) (fun _ _ _ h => h.elim) (by assumption) (.inl ⟨?_, fun w => ?_⟩) ?_
          rotate_left 2
          · (simp only [List.getElem?_toArray, List.getElem?_cons_succ, List.getElem?_cons_zero]; rfl)
          · rfl
          · (go_simp; try with_reducible rfl)
          simp only [Act.put, List.setIfInBounds_toArray, List.set_cons_zero, List.set_cons_succ]
          refine till_take (i := 23) (oi := ?_) (v := ?_) ?_ (by kernel_rfl) (by kernel_rfl) (by kernel_rfl) (by kernel_rfl) (by kernel_rfl) (fun _ _ _ h => h.elim) (by assumption) (.inl ⟨?_, fun w hSw => ?_⟩) ?_
          rotate_left 2
          · (simp only [List.getElem?_toArray, List.getElem?_cons_succ, List.getElem?_cons_zero]; rfl)
          · rfl
          · (have hc : w.cell? ⟨b0, 14, none⟩ = some (.slice ac nc cc) := HC.out w (hSw) 14 _ rfl; clear hSw; go_simp; try with_reducible rfl)
          simp only [Act.put, List.setIfInBounds_toArray, List.set_cons_zero, List.set_cons_succ]
          refine till_itemsB (fun w (h : St w0 w (own 53 3 u12 L10.length (L10.flatMap fldC) * (K10 * AA))) => h.right.right) (its := [PItem.row 27 6 (.int .u64 (u64N p.lay.w : Int)), PItem.callOf 7 6 (fun u => .agg #[.int .u16 322, .int .i64 4, u]), PItem.row 27 13 (.int .u64 (u64N p.lay.h : Int)), PItem.callOf 14 13 (fun u => .agg #[.int .u16 323, .int .i64 4, u]), PItem.call 19 (.agg #[.int .u16 324, .int .i64 (wideK lg), .slice ao no co]), PItem.call 24 (.agg #[.int .u16 325, .int .i64 (wideK lg), .slice ac nc cc])]) [(6, 6), (7, 6), (13, 13), (14, 13), (19, 19), (24, 24)] [112, 113, 119, 120, 125, 130] 211 rfl rfl (by kernel_rfl) rfl ?_ 3 rfl hSd ?_
          · intro t ht
            simp only [List.mem_cons, List.not_mem_nil, or_false] at ht
            rcases ht with rfl | rfl | rfl | rfl | rfl | rfl
            · exact PItem.row_ok elemU64 (i := 6) rfl rfl rfl 111 rfl (by decide) rfl rfl
            · exact PItem.callOf_ok (i := 7) (j := 6) (args := fun u => #[.int .u16 322, .int .i64 4, u]) rfl rfl rfl rfl (by decide) rfl ent_number (by decide) (fun a u ha hu => (map3 _ _ _ _).trans (by rw [show a.eval (.tmp 112) = u from hu]; rfl)) (fun w B u hu h => by
              obtain ⟨z, a', c', rfl⟩ : ∃ z : Value, ∃ a' c', u = .slice a' 1 c' := hu
              exact number_any h _ _ _ _ _)
            · exact PItem.row_ok elemU64 (i := 13) rfl rfl rfl 118 rfl (by decide) rfl rfl
            · exact PItem.callOf_ok (i := 14) (j := 13) (args := fun u => #[.int .u16 323, .int .i64 4, u]) rfl rfl rfl rfl (by decide) rfl ent_number (by decide) (fun a u ha hu => (map3 _ _ _ _).trans (by rw [show a.eval (.tmp 119) = u from hu]; rfl)) (fun w B u hu h => by
              obtain ⟨z, a', c', rfl⟩ : ∃ z : Value, ∃ a' c', u = .slice a' 1 c' := hu
              exact number_any h _ _ _ _ _)
            · exact PItem.call_ok (i := 19) (args := #[.int .u16 324, .int .i64 (wideK lg), .slice ao no co]) rfl rfl rfl rfl (by decide) rfl ent_number (fun a ha => (map3 _ _ _ _).trans (by rw [ha 122 (by decide), ha 124 (by decide)]; rfl)) (fun w B h => number_any h _ _ _ _ _)
            · exact PItem.call_ok (i := 24) (args := #[.int .u16 325, .int .i64 (wideK lg), .slice ac nc cc]) rfl rfl rfl rfl (by decide) rfl ent_number (fun a ha => (map3 _ _ _ _).trans (by rw [ha 127 (by decide), ha 129 (by decide)]; rfl)) (fun w B h => number_any h _ _ _ _ _)
          intro vs w9 hR h9
          have r6 := hR (PItem.row 27 6 (.int .u64 (u64N p.lay.w : Int))) (List.mem_of_getElem? (i := 0) rfl)
          have r7 := hR (PItem.callOf 7 6 (fun u => .agg #[.int .u16 322, .int .i64 4, u])) (List.mem_of_getElem? (i := 1) rfl)
          have r13 := hR (PItem.row 27 13 (.int .u64 (u64N p.lay.h : Int))) (List.mem_of_getElem? (i := 2) rfl)
          have r14 := hR (PItem.callOf 14 13 (fun u => .agg #[.int .u16 323, .int .i64 4, u])) (List.mem_of_getElem? (i := 3) rfl)
          have r19 := hR (PItem.call 19 (.agg #[.int .u16 324, .int .i64 (wideK lg), .slice ao no co])) (List.mem_of_getElem? (i := 4) rfl)
          have r24 := hR (PItem.call 24 (.agg #[.int .u16 325, .int .i64 (wideK lg), .slice ac nc cc])) (List.mem_of_getElem? (i := 5) rfl)
          change anyTill _ _ _ _ _ _ _ _ (putsR _ [(112, vs 6), (113, vs 7), (119, vs 13), (120, vs 14), (125, vs 19), (130, vs 24)]) _
          have h9' : St w0 w9 (prodL [own 27 1 (vs 6) 1 [.int .u64 (u64N p.lay.w : Int)], emp, own 27 1 (vs 13) 1 [.int .u64 (u64N p.lay.h : Int)], emp, emp, emp] * (own 53 3 u12 L10.length (L10.flatMap fldC) * (K10 * AA))) := h9
          clear h9 hR
          obtain ⟨a6, c6, e6⟩ : ∃ a c, vs 6 = .slice a 1 c := r6
          have e7 : vs 7 = .agg #[.int .u16 322, .int .i64 4, vs 6] := r7
          obtain ⟨a13, c13, e13⟩ : ∃ a c, vs 13 = .slice a 1 c := r13
          have e14 : vs 14 = .agg #[.int .u16 323, .int .i64 4, vs 13] := r14
          have e19 : vs 19 = .agg #[.int .u16 324, .int .i64 (wideK lg), .slice ao no co] := r19
          have e24 : vs 24 = .agg #[.int .u16 325, .int .i64 (wideK lg), .slice ac nc cc] := r24
          simp only [e6, e7, e13, e14, e19, e24] at h9' ⊢
          clear e24 r24 e19 r19 e14 r14 e13 e7 r7 e6
          simp only [prodL, emp_star, star_emp] at h9'
          simp only [putsR, Act.put, List.setIfInBounds_toArray, List.set_cons_zero, List.set_cons_succ]
          obtain ⟨M, hM⟩ : ∃ M : List FV, M = [(.slice a6 1 c6, ⟨322, 4, [u64N p.lay.w]⟩), (.slice a13 1 c13, ⟨323, 4, [u64N p.lay.h]⟩), (.slice ao no co, ⟨324, wideK lg, p.offs⟩), (.slice ac nc cc, ⟨325, wideK lg, p.cnts⟩)] := ⟨_, rfl⟩
          have h10 := (h9'.alloc (.cells #[.int .u16 322, .int .i64 4, .slice a6 1 c6, .int .u16 323, .int .i64 4, .slice a13 1 c13, .int .u16 324, .int .i64 (wideK lg), .slice ao no co, .int .u16 325, .int .i64 (wideK lg), .slice ac nc cc] 53)).own_blk (size := 3) (n := 4) (cap := 4) (xs := M.flatMap fldC) (Nat.le_refl _) (by decide) rfl (by rw [hM]; rfl)
          have hfM : fl M = cutL p lg := by rw [hM, cutL, ← HTL.out]; rfl
          have eM : M.length = 4 := by rw [hM]; rfl
          have hMv : ∀ y ∈ M, ∀ X w, St w0 w (X * ((own 27 1 (.slice a6 1 c6) 1 [.int .u64 (u64N p.lay.w : Int)] * own 27 1 (.slice a13 1 c13) 1 [.int .u64 (u64N p.lay.h : Int)]) * (K10 * AA))) → Reads w 1 y.1 y.2.vals.length (y.2.vals.map u64v) := by
            intro y hy X w hw
            have hF := HA.out w ((hw.right.right.right.perm HAA.out).right)
            rw [hM] at hy
            simp only [List.mem_cons, List.not_mem_nil, or_false] at hy
            rcases hy with rfl | rfl | rfl | rfl
            · exact (hw.right.perm (show _ = own 27 1 (.slice a6 1 c6) 1 [.int .u64 (u64N p.lay.w : Int)] * (own 27 1 (.slice a13 1 c13) 1 [.int .u64 (u64N p.lay.h : Int)] * (K10 * AA)) by ac_rfl)).reads
            · exact (hw.right.perm (show _ = own 27 1 (.slice a13 1 c13) 1 [.int .u64 (u64N p.lay.h : Int)] * (own 27 1 (.slice a6 1 c6) 1 [.int .u64 (u64N p.lay.w : Int)] * (K10 * AA)) by ac_rfl)).reads
            · exact hF.offs
            · exact hF.cnts
          have HMV := Lib.hid hMv
          clear hMv
          refine till_one (i := 25) (by kernel_rfl) ?_
          refine wpOp_step (by rfl) fun K hK => ?_
          go_simp
          refine hK _ _ ⟨fun e => h10.right.right.right.right, ?_⟩
          clear hK K
          have H11 := Lib.hid (h10.perm (show _ = (own 53 3 u12 L10.length (L10.flatMap fldC)) * (own 53 3 (.slice (some ⟨w9.heap.size, 0, none⟩) 4 4) 4 (M.flatMap fldC) * ((own 27 1 (.slice a6 1 c6) 1 [.int .u64 (u64N p.lay.w : Int)] * own 27 1 (.slice a13 1 c13) 1 [.int .u64 (u64N p.lay.h : Int)]) * (K10 * AA))) by ac_rfl))
          have HX := Lib.hid h10.reads
          clear h10
          generalize hgg : w9.heap.size = g8 at *
          generalize hww : w9.alloc _ = W8 at *
          clear hgg hww h9'
          have TF := elemFld
          refine till_one (i := 26) (by kernel_rfl) ?_
          refine wpOp_step (by rfl) fun K hK => ?_
          refine step_append_L TF rfl _ _ rfl rfl (stl2 H11.out) 0 rfl (x := .slice (some ⟨g8, 0, none⟩) 4 4) rfl (m := 4) (news := M.flatMap fldC) HX.out (ones_fld (by rw [hM]; intro y hy; simp only [List.mem_cons, List.not_mem_nil, or_false] at hy; rcases hy with rfl | rfl | rfl | rfl <;> rfl)) (by unfold maxLen; omega) (by omega) fun v9 W9 h90 _ => ?_
          have h9 := stl2_out h90
          refine hK _ _ ⟨fun e => h9.right.right.right.right, ?_⟩
          clear hK K h90
          refine till_one (i := 27) (by kernel_rfl) ?_
          refine wpOp_step (by rfl) fun K hK => ?_
          go_simp
          refine hK _ _ ⟨fun e => (by first | exact absurd e (by decide) | (simp at e)), ?_⟩
          clear hK K
          have H12 := Lib.hid h9
          clear h9
          refine ⟨(by kernel_rfl), NoPanic.normal ?_⟩
          go_wp2_with fail
          go_meet
          refine ⟨L10 ++ M, by rw [fl, List.map_append, ← fl, ← fl, HL10.out, hfM]; rfl, FldsS.app (X := own 53 3 (.slice (some ⟨g8, 0, none⟩) 4 4) 4 (M.flatMap fldC) * (own 27 1 (.slice a6 1 c6) 1 [.int .u64 (u64N p.lay.w : Int)] * own 27 1 (.slice a13 1 c13) 1 [.int .u64 (u64N p.lay.h : Int)])) (K := K10) ?_ HV10.out fun y hy w hw => HMV.out y hy _ w (hw.perm (star_assoc _ _ _))⟩
          rw [eM]
          exact H12.out.perm (by ac_rfl)
      obtain ⟨L11, hL11, hFS⟩ := hcut
      clear HS HV10 HL10
      obtain ⟨eR1, eR2, eR3⟩ := HE.out
      have c15 : wc.cell? ⟨b0, 15, none⟩ = some (.slice ar nr cr) := by
        obtain ⟨K11, hst, _⟩ := hFS
        exact HC.out _ hst.right.right 15 _ rfl
      have hRl : R.length ≤ 1000 := by
        have h1 := (HN.out).2.2
        have : (fl R).length = p.rest.length := by
          obtain ⟨K11, hst, _⟩ := hFS
          rw [(HA.out _ ((hst.right.right.perm HAA.out).right)).flds]
        rw [fl, List.length_map] at this
        omega
      have HFS := Lib.hid hFS; have HL11 := Lib.hid hL11
      have HR3 := Lib.hid eR3
      have hnr : nr ≤ 1000 := by omega
      clear hFS hL11 eR1 eR2 eR3 hRl
      go_wp2_with fail
      clear c15
      obtain ⟨PGB, hPGB⟩ : ∃ PGB, AA = PGB * F := ⟨_, HAA.out⟩
      have HPGB := Lib.hid hPGB
      clear hPGB
      go_loopw [12, 156] (fun v vi wr => ∃ (k : Nat) (L : List FV), k ≤ nr ∧ vi = .int .i64 k ∧ fl L = baseL p al lg ++ p.rest.take k ∧ twiceB (baseL p al lg) p.rest = twiceB (fl L) (p.rest.drop k) ∧ FldsS w0 wr AA v L) (fun v vi _ => nr - (intOf vi).toNat)
      case atStart => exact ⟨0, L11, by omega, rfl, by rw [HL11.out, List.take_zero, List.append_nil], by rw [HL11.out, List.drop_zero], HFS.out⟩
      case round =>
        clear HFS HL11
        obtain ⟨k, L, hk, rfl, hfl, htw, K, hst, hvl⟩ := hrel
        have hRr : fl R = p.rest := (HA.out _ ((hst.right.right.perm HAA.out).right)).flds
        by_cases hkn : k < nr
        · have hkR : k < R.length := by have := HR3.out; omega
          have hx := List.getElem?_eq_getElem hkR
          have hFR := (HA.out _ ((hst.right.right.perm HAA.out).right)).rest
          have hrow := hFR.row
          rw [← HR3.out] at hrow
          obtain ⟨b, off, rfl, c0, c1, c2⟩ := reads_fld hrow hx
          obtain ⟨av, cv, hos⟩ := (hFR.vals _ (List.getElem_mem hkR)).sub
          have hvr : Stb w0 AA (fun w => Reads w 1 R[k].1 R[k].2.vals.length (R[k].2.vals.map u64v)) := fun w h => (HA.out w ((h.perm HAA.out).right)).rest.vals _ (List.getElem_mem hkR)
          have hrk : p.rest.drop k = R[k].2 :: p.rest.drop (k + 1) := by
            rw [← hRr]
            have := List.drop_eq_getElem_cons (l := fl R) (i := k) (by simpa using hkR)
            rw [this, List.getElem_map]
          have htk : p.rest.take (k + 1) = p.rest.take k ++ [R[k].2] := by
            rw [← hRr, List.take_succ_eq_append_getElem (by simpa using hkR), List.getElem_map]
          have hmem : R[k].2 ∈ p.rest := by rw [← hRr]; exact List.mem_map_of_mem (List.getElem_mem hkR)
          have hol : R[k].2.vals.length ≤ 100000 := HLV.out _ hmem
          have hkI : (k : Int) < nr := by omega
          have hLl : L.length ≤ 2000 := by
            have h1 := congrArg List.length hfl
            rw [fl, List.length_map, List.length_append, List.length_take] at h1
            have h2 : (baseL p al lg).length ≤ 14 := by
              unfold baseL base9 faxL cutL
              split <;> split <;> simp
            omega
          generalize R[k] = o at *
          obtain ⟨ov, o⟩ := o
          simp only at hos
          subst hos
          simp only at c0 c1 c2 hvr hrk htk hol
          have HVR := Lib.hid hvr; have HRK := Lib.hid hrk; have HTK := Lib.hid htk; have HTW := Lib.hid htw; have HFL := Lib.hid hfl
          have HST := Lib.hid hst; have HVL := Lib.hid hvl
          clear hst hvl hrow hFR hx hvr hrk htk hmem hkR htw hfl hRr
          have HA2 := Lib.hid (HST.out.alloc (.cells #[.int .u16 (o.tag : Int), .int .i64 o.kind, .slice av o.vals.length cv] 53))
          have hent : ∀ args w, (callFunc 37 args).run Try.prog w = .ok (.enter 37 args) w := fun args w => enters_fn Try.func37 (by kernel_rfl) rfl args w
          have HK := Lib.hid (known_any HA2.out o.tag rfl)
          obtain ⟨kb, hkb⟩ : ∃ kb, kb = knownL.contains o.tag := ⟨_, rfl⟩
          rw [← hkb] at HK
          have Hkb := Lib.hid hkb
          clear hkb
          go_wp2_with (go_at_call 15; apply stop)
          refine on (HK.out.mono ?_)
          rintro r wr2 ⟨rfl, h2⟩
          have HS := Lib.hid h2
          clear h2 HK HA2 HST c0 c1 c2
          generalize wr.heap.size = fb at *
          have c0 := HS.out.cell 0 rfl
          cases kb
          rotate_left
          · have htrue : twiceB (baseL p al lg) p.rest = true := by rw [HTW.out, HRK.out, twiceB, if_pos (by rw [← Hkb.out]; rfl)]
            have HER := Lib.hid (show er = 14 by rw [Her.out, fieldsE, if_pos htrue])
            have HLN := Lib.hid (show LV = [] by rw [HLVV.out, fieldsV, if_neg (by rw [← Her.out, HER.out]; decide)])
            clear htrue
            go_wp2_with fail
            go_ret2
            refine ⟨.slice none 0 0, [], blk fb (.cells #[.int .u16 (o.tag : Int), .int .i64 o.kind, .slice av o.vals.length cv] 53) * (own 53 3 u12 L.length (L.flatMap fldC) * (K * PGB)), by rw [HER.out]; rfl, HS.out.perm (by rw [HPGB.out]; simp only [star_assoc]), fun w h => ⟨⟨rfl, .inl ⟨rfl, rfl⟩⟩, fun x hx => by cases hx⟩, by rw [HLN.out]; rfl⟩
          have HCF := containsF_any (v := u12) (L := L) HS.out (fun w h => ⟨h.right.reads, fun y hy => HVL.out y hy w h.right.right⟩) (by omega) pred_tag
          obtain ⟨cb, hcb⟩ : ∃ cb, cb = (fl L).any (fun f => f.tag == o.tag) := ⟨_, rfl⟩
          rw [← hcb] at HCF
          have HCB := Lib.hid hcb
          have HCF2 := Lib.hid HCF
          clear hcb HCF
          go_wp2_with (go_at_call 37; apply stop)
          refine on (HCF2.out.mono ?_)
          rintro r wr3 ⟨rfl, h3⟩
          clear HS
          have HS := Lib.hid h3
          clear h3 HCF2 c0
          cases cb
          rotate_left
          · have htrue : twiceB (baseL p al lg) p.rest = true := by rw [HTW.out, HRK.out, twiceB, if_pos (by rw [← HCB.out]; simp)]
            have HER := Lib.hid (show er = 14 by rw [Her.out, fieldsE, if_pos htrue])
            have HLN := Lib.hid (show LV = [] by rw [HLVV.out, fieldsV, if_neg (by rw [← Her.out, HER.out]; decide)])
            clear htrue
            go_wp2_with fail
            go_ret2
            refine ⟨.slice none 0 0, [], blk fb (.cells #[.int .u16 (o.tag : Int), .int .i64 o.kind, .slice av o.vals.length cv] 53) * (own 53 3 u12 L.length (L.flatMap fldC) * (K * PGB)), by rw [HER.out]; rfl, HS.out.perm (by rw [HPGB.out]; simp only [star_assoc]), fun w h => ⟨⟨rfl, .inl ⟨rfl, rfl⟩⟩, fun x hx => by cases hx⟩, by rw [HLN.out]; rfl⟩
          go_upto_region 27 with (fail)
          -- REGION 27
          have HS2 := Lib.hid (HS.out.perm (show _ = blk fb (.cells #[.int .u16 (o.tag : Int), .int .i64 o.kind, .slice av o.vals.length cv] 53) * ((own 53 3 u12 L.length (L.flatMap fldC) * K) * AA) by simp only [star_assoc]))
          have hSP : ∀ W Y, St w0 W (blk fb (.cells #[.int .u16 (o.tag : Int), .int .i64 o.kind, .slice av o.vals.length cv] 53) * (Y * AA)) → St w0 W (blk fb (.cells #[.int .u16 (o.tag : Int), .int .i64 o.kind, .slice av o.vals.length cv] 53) * AA) := fun W Y h => (h.perm (star_left_comm _ _ _)).right
          refine wp_region_noPanic ?_
          refine region_till (S := fun W : World => St w0 W (blk fb (.cells #[.int .u16 (o.tag : Int), .int .i64 o.kind, .slice av o.vals.length cv] 53) * AA)) (k := 11) (by kernel_rfl) ?_
          have hS := hSP _ _ HS2.out.drew
          have HSP := Lib.hid hSP
          have HD := Lib.hid HS2.out.drew
          clear hSP HS2 HS
          refine till_take0 (i := 0) (oi := ?_) (v := ?_) ?_ (by kernel_rfl) (by kernel_rfl) (by kernel_rfl) (by decide) (fun _ _ _ h => h.elim) (by assumption) (.inl ⟨?_, fun w => ?_⟩) ?_
          rotate_left 2
          · (simp only [List.getElem?_toArray, List.getElem?_cons_succ, List.getElem?_cons_zero]; rfl)
          · rfl
          · (go_simp; try with_reducible rfl)
          simp only [Act.put, List.setIfInBounds_toArray, List.set_cons_zero, List.set_cons_succ]
          refine till_take0 (i := 1) (oi := ?_) (v := ?_) ?_ (by kernel_rfl) (by kernel_rfl) (by kernel_rfl) (by decide) (fun _ _ _ h => h.elim) (by assumption) (.inl ⟨?_, fun w => ?_⟩) ?_
          rotate_left 2
          · (simp only [List.getElem?_toArray, List.getElem?_cons_succ, List.getElem?_cons_zero]; rfl)
          · rfl
          · (go_simp; try with_reducible rfl)
          simp only [Act.put, List.setIfInBounds_toArray, List.set_cons_zero, List.set_cons_succ]
          refine till_take (i := 2) (oi := ?_) (v := ?_) ?_ (by kernel_rfl) (by kernel_rfl) (by kernel_rfl) (by kernel_rfl) (by kernel_rfl) (fun _ _ _ h => h.elim) (by assumption) (.inl ⟨?_, fun w hSw => ?_⟩) ?_
          rotate_left 2
          · (simp only [List.getElem?_toArray, List.getElem?_cons_succ, List.getElem?_cons_zero]; rfl)
          · rfl
          · (have hc : w.cell? ⟨fb, 0, none⟩ = some (.int .u16 (o.tag : Int)) := hSw.cell 0 rfl; clear hSw; go_simp; try with_reducible rfl)
          simp only [Act.put, List.setIfInBounds_toArray, List.set_cons_zero, List.set_cons_succ]
          refine till_take0 (i := 3) (oi := ?_) (v := ?_) ?_ (by kernel_rfl) (by kernel_rfl) (by kernel_rfl) (by decide) (fun _ _ _ h => h.elim) (by assumption) (.inl ⟨?_, fun w => ?_⟩) ?_
          rotate_left 2
          · (simp only [List.getElem?_toArray, List.getElem?_cons_succ, List.getElem?_cons_zero]; rfl)
          · rfl
          · (go_simp; try with_reducible rfl)
          simp only [Act.put, List.setIfInBounds_toArray, List.set_cons_zero, List.set_cons_succ]
          refine till_take (i := 4) (oi := ?_) (v := ?_) ?_ (by kernel_rfl) (by kernel_rfl) (by kernel_rfl) (by kernel_rfl) (by kernel_rfl) (fun _ _ _ h => h.elim) (by assumption) (.inl ⟨?_, fun w hSw => ?_⟩) ?_
          rotate_left 2
          · (simp only [List.getElem?_toArray, List.getElem?_cons_succ, List.getElem?_cons_zero]; rfl)
          · rfl
          · (have hc : w.cell? ⟨fb, 1, none⟩ = some (.int .i64 o.kind) := hSw.cell 1 rfl; clear hSw; go_simp; try with_reducible rfl)
          simp only [Act.put, List.setIfInBounds_toArray, List.set_cons_zero, List.set_cons_succ]
          refine till_take0 (i := 5) (oi := ?_) (v := ?_) ?_ (by kernel_rfl) (by kernel_rfl) (by kernel_rfl) (by decide) (fun _ _ _ h => h.elim) (by assumption) (.inl ⟨?_, fun w => ?_⟩) ?_
          rotate_left 2
          · (simp only [List.getElem?_toArray, List.getElem?_cons_succ, List.getElem?_cons_zero]; rfl)
          · rfl
          · (go_simp; try with_reducible rfl)
          simp only [Act.put, List.setIfInBounds_toArray, List.set_cons_zero, List.set_cons_succ]
          refine till_take (i := 6) (oi := ?_) (v := ?_) ?_ (by kernel_rfl) (by kernel_rfl) (by kernel_rfl) (by kernel_rfl) (by kernel_rfl) (fun _ _ _ h => h.elim) (by assumption) (.inl ⟨?_, fun w hSw => ?_⟩) ?_
          rotate_left 2
          · (simp only [List.getElem?_toArray, List.getElem?_cons_succ, List.getElem?_cons_zero]; rfl)
          · rfl
          · (have hc : w.cell? ⟨fb, 2, none⟩ = some (.slice av o.vals.length cv) := hSw.cell 2 rfl; clear hSw; go_simp; try with_reducible rfl)
          simp only [Act.put, List.setIfInBounds_toArray, List.set_cons_zero, List.set_cons_succ]
          clear hS
          generalize wr3.drew = W5 at *
          have HCL := Lib.hid (clone_any HD.out (v := .slice av o.vals.length cv) (l := o.vals) (fun w h => HVR.out w h.right.right) (by omega))
          refine till_one (i := 7) (by kernel_rfl) ?_
          refine wpOp_step (by rfl) fun K' hK => ?_
          go_simp
          refine HCL.out.mono ?_
          rintro e W7 ⟨v7, rfl, h7⟩
          obtain ⟨a7, k7, rfl⟩ := h7.reads.sub
          have h7' := h7.perm (show _ = blk fb (.cells #[.int .u16 (o.tag : Int), .int .i64 o.kind, .slice av o.vals.length cv] 53) * ((own 27 1 (.slice a7 o.vals.length k7) o.vals.length (o.vals.map u64v) * (own 53 3 u12 L.length (L.flatMap fldC) * K)) * AA) by ac_rfl)
          refine hK _ _ ⟨fun e => HSP.out _ _ h7', ?_⟩
          clear hK K' HCL HD
          have HC := Lib.hid h7'
          clear h7 h7'
          refine till_one (i := 8) (by kernel_rfl) ?_
          refine wpOp_step (by rfl) fun K' hK => ?_
          go_simp
          refine hK _ _ ⟨fun e => HSP.out _ _ HC.out, ?_⟩
          clear hK K'
          refine till_one (i := 9) (by kernel_rfl) ?_
          refine wpOp_step (by rfl) fun K' hK => ?_
          have h8 := (HC.out.alloc (.cells #[.int .u16 (o.tag : Int), .int .i64 o.kind, .slice a7 o.vals.length k7] 53)).own_blk (size := 3) (n := 1) (cap := 1) (xs := fldC (.slice a7 o.vals.length k7, o)) (Nat.le_refl _) (by decide) rfl rfl
          go_simp
          refine hK _ _ ⟨fun e => HSP.out _ _ h8.right, ?_⟩
          clear hK K'
          have HX8 := Lib.hid h8.reads
          have H8 := Lib.hid (h8.perm (show _ = own 53 3 u12 L.length (L.flatMap fldC) * (own 53 3 (.slice (some ⟨W7.heap.size, 0, none⟩) 1 1) 1 (fldC (.slice a7 o.vals.length k7, o)) * (blk fb (.cells #[.int .u16 (o.tag : Int), .int .i64 o.kind, .slice av o.vals.length cv] 53) * ((own 27 1 (.slice a7 o.vals.length k7) o.vals.length (o.vals.map u64v) * K) * AA))) by ac_rfl))
          clear h8 HC
          generalize hgg : W7.heap.size = g8 at *
          generalize hww : W7.alloc _ = W8 at *
          clear hgg hww
          have TF := elemFld
          refine till_one (i := 10) (by kernel_rfl) ?_
          refine wpOp_step (by rfl) fun K' hK => ?_
          refine step_append_L TF rfl _ _ rfl rfl (stl2 H8.out) 0 rfl (x := .slice (some ⟨g8, 0, none⟩) 1 1) rfl (m := 1) (news := fldC (.slice a7 o.vals.length k7, o)) HX8.out fldC_one (by unfold maxLen; omega) (by omega) fun v9 W9 h90 _ => ?_
          have h9 := stl2_out h90
          refine hK _ _ ⟨fun e => (HSP.out _ _ h9.right.right), ?_⟩
          clear hK K' h90
          refine till_one (i := 11) (by kernel_rfl) ?_
          refine wpOp_step (by rfl) fun K' hK => ?_
          go_simp
          refine hK _ _ ⟨fun e => (by first | exact absurd e (by decide) | (simp at e)), ?_⟩
          clear hK K'
          have H9 := Lib.hid h9
          clear h9
          refine ⟨(by kernel_rfl), NoPanic.normal ?_⟩
          go_wp2_with fail
          refine ⟨⟨k + 1, L ++ [(.slice a7 o.vals.length k7, o)], by omega, by go_num, ?_, ?_, ?_⟩, by simp [intOf]; omega⟩
          · rw [fl, List.map_append, ← fl, HFL.out, HTK.out, ← List.append_assoc]; rfl
          · rw [HTW.out, HRK.out, twiceB, if_neg (by rw [← Hkb.out, ← HCB.out]; simp), fl, fl, List.map_append]; rfl
          · exact FldsS.snoc (X := own 53 3 (.slice (some ⟨g8, 0, none⟩) 1 1) 1 (fldC (.slice a7 o.vals.length k7, o)) * blk fb (.cells #[.int .u16 (o.tag : Int), .int .i64 o.kind, .slice av o.vals.length cv] 53)) (K := K) (H9.out.perm (by ac_rfl)) HVL.out
          -- END 27
        · obtain rfl : nr = k := by omega
          have hlen : p.rest.length = nr := by rw [← hRr, fl, List.length_map]; exact HR3.out.symm
          rw [← hlen, List.take_length] at hfl
          rw [← hlen, List.drop_length] at htw
          have htw2 : twiceB (baseL p al lg) p.rest = false := htw
          have hbl : 12 ≤ (baseL p al lg).length := by
            unfold baseL base9 faxL cutL
            split <;> split <;> simp
          have hbl2 : (baseL p al lg).length ≤ 14 := by
            unfold baseL base9 faxL cutL
            split <;> split <;> simp
          have hLl : L.length = (baseL p al lg).length + nr := by
            have h1 := congrArg List.length hfl
            rw [fl, List.length_map, List.length_append, hlen] at h1
            exact h1
          have HSO := Lib.hid (sort_any hst (fun y hy => by
            obtain ⟨a, c, e⟩ := (hvl y hy _ hst.right).sub
            exact ⟨a, _, c, e⟩) (by omega) (by omega))
          have HVL := Lib.hid hvl
          have HFL := Lib.hid hfl; have HTW := Lib.hid htw2
          have HLN := Lib.hid (And.intro hbl (And.intro hbl2 hLl))
          clear hst hvl hlen hfl htw htw2 hRr hbl hbl2 hLl
          go_wp2_with (go_at_call 39; apply stop)
          refine on (HSO.out.mono ?_)
          rintro e w20 ⟨rfl, L', hperm, hsorted, hst⟩
          have hnod : ((baseL p al lg ++ p.rest).map Fld.tag).Nodup := (twiceB_nodup HTW.out (baseL_nodup p al lg)).1
          have hpf : (fl L').Perm (baseL p al lg ++ p.rest) := by rw [← HFL.out]; exact hperm.map _
          have hris : Rising (fl L') := by
            have h1 : ((fl L').map Fld.tag).Nodup := (hpf.map Fld.tag).symm.nodup hnod
            unfold Rising fl
            rw [List.pairwise_map]
            unfold fl List.Nodup at h1
            rw [List.map_map, List.pairwise_map] at h1
            exact (hsorted.and h1).imp fun h => Nat.lt_of_le_of_ne h.1 h.2
          have heq : fl L' = fieldsL p al lg := rising_unique hris (sortF_rising hnod) (hpf.trans (sortF_perm _).symm)
          have hln' := hperm.length_eq
          obtain ⟨hb1, hb2, hb3⟩ := HLN.out
          have hvl' : ∀ y ∈ L', Stb w0 (K * AA) (fun w => Reads w 1 y.1 y.2.vals.length (y.2.vals.map u64v)) := fun y hy => HVL.out y (hperm.subset hy)
          have hlv' : ∀ y ∈ L', y.2.vals.length ≤ 1000000 := fun y hy => by
            have hm : y.2 ∈ baseL p al lg ++ p.rest := hpf.subset (List.mem_map_of_mem hy)
            rcases List.mem_append.1 hm with hm | hm
            · have hn := HN.out
              have hmm := HM.out
              unfold baseL base9 faxL cutL wideK at hm
              have hbr : (bitsR p).length ≤ 1000 := by unfold bitsR; rw [List.length_replicate]; omega
              rcases List.mem_append.1 hm with hm | hm
              · rcases List.mem_append.1 hm with hm | hm
                · simp only [List.mem_cons, List.not_mem_nil, or_false] at hm
                  rcases hm with e | e | e | e | e | e | e | e | e <;> rw [e] <;> simp only [List.length_cons, List.length_nil] <;> omega
                · split at hm
                  · simp only [List.mem_cons, List.not_mem_nil, or_false] at hm
                    rw [hm]; simp
                  · cases hm
              · split at hm <;> simp only [List.mem_cons, List.not_mem_nil, or_false] at hm
                · rcases hm with e | e | e | e <;> rw [e] <;> simp only [List.length_cons, List.length_nil] <;> omega
                · rcases hm with e | e | e <;> rw [e] <;> simp only [List.length_cons, List.length_nil] <;> omega
            · have := HLV.out _ hm; omega
          have HDS := Lib.hid (describe_any hst (v := u12) (L := L') (fun w h => ⟨h.reads, fun y hy => hvl' y hy w h.right⟩) (by omega) hlv')
          have HST := Lib.hid hst; have HVL' := Lib.hid hvl'; have HEQ := Lib.hid heq
          clear hst hvl' hlv' heq hris hpf hnod hsorted hperm HSO HVL hb1 hb2 hb3 hln'
          rw [HEQ.out] at HDS
          obtain ⟨LL, hLL⟩ : ∃ LL, LL = fieldsL p al lg := ⟨_, rfl⟩
          rw [← hLL] at HDS HEQ
          have HLL := Lib.hid hLL
          obtain ⟨de, hde⟩ : ∃ de, de = descE LL := ⟨_, rfl⟩
          obtain ⟨PG, hPG⟩ : ∃ PG, PG = (if de = 0 then pageV LL else nonePg) := ⟨_, rfl⟩
          rw [← hde, ← hPG] at HDS
          have Hde := Lib.hid hde; have HPG := Lib.hid hPG
          clear hde hLL hPG
          go_wp2_with (go_at_call 8; apply stop)
          refine on (HDS.out.mono ?_)
          rintro e w21 ⟨vo, vc, vr, RR, K21, rfl, h21, hpg⟩
          obtain ⟨ao2, co2, rfl⟩ := (hpg _ h21).offs.sub
          obtain ⟨ac2, cc2, rfl⟩ := (hpg _ h21).cnts.sub
          obtain ⟨ar2, cr2, rfl⟩ := (hpg _ h21).rest.row.sub
          have H22 := Lib.hid (h21.alloc (.cells pg0 30))
          generalize PG.offs.length = n1 at *
          generalize PG.cnts.length = n2 at *
          generalize RR.length = n3 at *
          clear h21 hpg HDS HST
          go_upto_region 31 with (refine wpList_store_blk rfl 30 _ _ rfl H22.out rfl rfl (by show _ = some 16; kernel_rfl) rfl rfl ?_)
          have H23 := Lib.hid (H22.out.setRow (pgC PG (.slice ao2 n1 co2) (.slice ac2 n2 cc2) (.slice ar2 n3 cr2)))
          clear H22
          generalize w21.heap.size = g2 at *
          generalize World.setRow _ _ _ = W1 at *
          have HAAW := Lib.hid (H23.out.right.right.right.right)
          obtain ⟨ob, hob⟩ : ∃ ob, ob = decide (de = 0 ∧ PG.scheme = p.scheme ∧ PG.lay.width = p.lay.width ∧ PG.lay.height = p.lay.height ∧ PG.lay.tiled = p.lay.tiled ∧ PG.lay.w = p.lay.w ∧ PG.lay.h = p.lay.h ∧ PG.two = p.two) := ⟨_, rfl⟩
          have HOB0 := Lib.hid hob
          go_cut [209] from 187 to 209 (fun x wx => x = .bool (!ob) ∧ wx = W1)
          case first =>
            have d9 : W1.cell? ⟨g2, 9, none⟩ = some (.int .i64 PG.scheme) := H23.out.cell 9 rfl
            have d0 : W1.cell? ⟨g2, 0, none⟩ = some (.int .i64 PG.lay.width) := H23.out.cell 0 rfl
            have d1 : W1.cell? ⟨g2, 1, none⟩ = some (.int .i64 PG.lay.height) := H23.out.cell 1 rfl
            have d2 : W1.cell? ⟨g2, 2, none⟩ = some (.bool PG.lay.tiled) := H23.out.cell 2 rfl
            have d3 : W1.cell? ⟨g2, 3, none⟩ = some (.int .i64 PG.lay.w) := H23.out.cell 3 rfl
            have d4 : W1.cell? ⟨g2, 4, none⟩ = some (.int .i64 PG.lay.h) := H23.out.cell 4 rfl
            have d12 : W1.cell? ⟨g2, 12, none⟩ = some (.bool PG.two) := H23.out.cell 12 rfl
            have c9 : W1.cell? ⟨b0, 9, none⟩ = some (.int .i64 p.scheme) := HC.out _ HAAW.out 9 _ rfl
            have c0 : W1.cell? ⟨b0, 0, none⟩ = some (.int .i64 p.lay.width) := HC.out _ HAAW.out 0 _ rfl
            have c1 : W1.cell? ⟨b0, 1, none⟩ = some (.int .i64 p.lay.height) := HC.out _ HAAW.out 1 _ rfl
            have c2 : W1.cell? ⟨b0, 2, none⟩ = some (.bool p.lay.tiled) := HC.out _ HAAW.out 2 _ rfl
            have c3 : W1.cell? ⟨b0, 3, none⟩ = some (.int .i64 p.lay.w) := HC.out _ HAAW.out 3 _ rfl
            have c4 : W1.cell? ⟨b0, 4, none⟩ = some (.int .i64 p.lay.h) := HC.out _ HAAW.out 4 _ rfl
            have c12 : W1.cell? ⟨b0, 12, none⟩ = some (.bool p.two) := HC.out _ HAAW.out 12 _ rfl
            have HOB := Lib.hid hob
            clear hob
            by_cases hz : de = 0
            rotate_left
            · have hzb : ((de : Int) != 0) = true := by simpa using hz
              have hob : ob = false := by rw [HOB.out]; simp [hz]
              subst hob
              clear hz d9 d0 d1 d2 d3 d4 d12 c9 c0 c1 c2 c3 c4 c12
              go_wp2_with fail
              go_meet
              exact ⟨rfl, rfl⟩
            have hzb : ((de : Int) != 0) = false := by simpa using hz
            have HZ := Lib.hid hz
            clear hz
            obtain ⟨sc, hsc⟩ : ∃ sc, sc = PG.scheme := ⟨_, rfl⟩
            rw [← hsc] at d9 HOB
            clear hsc
            obtain ⟨x1, hx1⟩ : ∃ x1, x1 = PG.lay.width := ⟨_, rfl⟩
            rw [← hx1] at d0 HOB
            clear hx1
            obtain ⟨x2, hx2⟩ : ∃ x2, x2 = PG.lay.height := ⟨_, rfl⟩
            rw [← hx2] at d1 HOB
            clear hx2
            obtain ⟨x3, hx3⟩ : ∃ x3, x3 = PG.lay.tiled := ⟨_, rfl⟩
            rw [← hx3] at d2 HOB
            clear hx3
            obtain ⟨x4, hx4⟩ : ∃ x4, x4 = PG.lay.w := ⟨_, rfl⟩
            rw [← hx4] at d3 HOB
            clear hx4
            obtain ⟨x5, hx5⟩ : ∃ x5, x5 = PG.lay.h := ⟨_, rfl⟩
            rw [← hx5] at d4 HOB
            clear hx5
            obtain ⟨tw, htw⟩ : ∃ tw, tw = PG.two := ⟨_, rfl⟩
            rw [← htw] at d12 HOB
            clear htw
            by_cases hsc : sc = p.scheme
            rotate_left
            · have hob : ob = false := by rw [HOB.out]; simp [hsc]
              subst hob
              go_wp2_with fail
              go_meet
              exact ⟨rfl, rfl⟩
            subst hsc
            by_cases hx1 : x1 = p.lay.width
            rotate_left
            · have hob : ob = false := by rw [HOB.out]; simp [hx1]
              subst hob
              go_wp2_with fail
              go_meet
              exact ⟨rfl, rfl⟩
            subst hx1
            by_cases hx2 : x2 = p.lay.height
            rotate_left
            · have hob : ob = false := by rw [HOB.out]; simp [hx2]
              subst hob
              go_wp2_with fail
              go_meet
              exact ⟨rfl, rfl⟩
            subst hx2
            by_cases hx3 : x3 = p.lay.tiled
            rotate_left
            · have hob : ob = false := by rw [HOB.out]; simp [hx3]
              subst hob
              go_wp2_with fail
              go_meet
              exact ⟨rfl, rfl⟩
            subst hx3
            by_cases hx4 : x4 = p.lay.w
            rotate_left
            · have hob : ob = false := by rw [HOB.out]; simp [hx4]
              subst hob
              go_wp2_with fail
              go_meet
              exact ⟨rfl, rfl⟩
            subst hx4
            by_cases hx5 : x5 = p.lay.h
            rotate_left
            · have hob : ob = false := by rw [HOB.out]; simp [hx5]
              subst hob
              go_wp2_with fail
              go_meet
              exact ⟨rfl, rfl⟩
            subst hx5
            by_cases htw : tw = p.two
            rotate_left
            · have hob : ob = false := by rw [HOB.out]; simp [htw]
              subst hob
              go_wp2_with fail
              go_meet
              first | exact ⟨rfl, rfl⟩ | exact ⟨congrArg Value.bool (by simp [htw]), rfl⟩
            subst htw
            have hob : ob = true := by rw [HOB.out]; simp [HZ.out]
            subst hob
            go_wp2_with fail
            go_meet
            exact ⟨rfl, rfl⟩
          obtain ⟨rfl, rfl⟩ := hcut
          have hob2 : ob = decide (fieldsOk p al lg) := by
            rw [HOB0.out]
            refine decide_eq_decide.2 ?_
            unfold fieldsOk
            rw [← HLL.out, ← Hde.out]
            by_cases hz : de = 0
            · rw [HPG.out, if_pos hz]
              generalize (pageV LL).lay = ly
              generalize p.lay = ly'
              obtain ⟨y1, y2, y3, y4, y5⟩ := ly
              obtain ⟨z1, z2, z3, z4, z5⟩ := ly'
              simp only [LayD.mk.injEq]
              constructor
              · rintro ⟨a, b, c, d, e, f, g, h⟩; exact ⟨a, b, ⟨c, d, e, f, g⟩, h⟩
              · rintro ⟨a, b, ⟨c, d, e, f, g⟩, h⟩; exact ⟨a, b, c, d, e, f, g, h⟩
            · exact ⟨fun h => absurd h.1 hz, fun h => absurd h.1 hz⟩
          have HOB2 := Lib.hid hob2
          clear hob hob2
          cases ob
          · have hno : ¬ fieldsOk p al lg := by simpa using HOB2.out.symm
            have HER := Lib.hid (show er = 10 by rw [Her.out, fieldsE, HTW.out, if_neg (by decide), if_neg hno])
            have HLN := Lib.hid (show LV = [] by rw [HLVV.out, fieldsV, if_neg (by rw [← Her.out, HER.out]; decide)])
            clear hno
            go_wp2_with fail
            go_ret2
            exact ⟨.slice none 0 0, [], _, by rw [HER.out]; rfl, H23.out.perm (by rw [HPGB.out]; simp only [← star_assoc]; rfl), fun w h => ⟨⟨rfl, .inl ⟨rfl, rfl⟩⟩, fun x hx => by cases hx⟩, by rw [HLN.out]; rfl⟩
          · have hyes : fieldsOk p al lg := by simpa using HOB2.out.symm
            have HER := Lib.hid (show er = 0 by rw [Her.out, fieldsE, HTW.out, if_neg (by decide), if_pos hyes])
            have HLN := Lib.hid (show LV = LL by rw [HLVV.out, fieldsV, if_pos (by rw [← Her.out, HER.out]), HLL.out])
            clear hyes
            go_wp2_with fail
            go_ret2
            refine ⟨u12, L', own 53 3 u12 L'.length (L'.flatMap fldC) * (K * PGB), by rw [HER.out]; rfl, H23.out.right.right.perm (by rw [HPGB.out]; simp only [star_assoc]), fun w h => ?_, by rw [HLN.out, HEQ.out]⟩
            have h2 := h.perm (show _ = own 53 3 u12 L'.length (L'.flatMap fldC) * (K * AA) by rw [HPGB.out]; simp only [star_assoc])
            exact ⟨h2.reads, fun y hy => HVL'.out y hy w h2.right⟩
end Go.Proofs.Ythoegjdkeooenaa
