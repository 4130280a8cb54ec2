/-
  Layer 23, the document: the fields that tell of a page (package mezzotintref23).
-/
import Derived.Test.YthoegjdkeooenaaTagJ
namespace Go.Proofs.Ythoegjdkeooenaa
open Go.RowKit Go.Mz
set_option linter.unusedVariables false
set_option linter.unusedSimpArgs false
set_option maxRecDepth 100000

theorem sortF_snoc (l : List Fld) (f : Fld) : sortF (l ++ [f]) = insF f (sortF l) := by unfold sortF; rw [List.foldl_append]; rfl
theorem FldsS.absorb {w0 w : World} {A X : SProp} {v : Value} {L : List FV} (h : FldsS w0 w (X * A) v L) : FldsS w0 w A v L := by
  obtain ⟨K, st, vals⟩ := h
  exact ⟨K * X, st.perm (by simp only [star_assoc]), fun y hy w hw => vals y hy w (hw.perm (by simp only [star_assoc]))⟩
theorem FldsS.start {w0 w : World} {A : SProp} (h : St w0 w A) : FldsS w0 w A (.slice none 0 0) [] := ⟨emp, (h.perm (emp_star A).symm).own_nil _ _, fun y hy => by cases hy⟩
theorem FldsS.base {w0 w : World} {A : SProp} {v : Value} {L : List FV} (h : FldsS w0 w A v L) : St w0 w A := by
  obtain ⟨K, st, vals⟩ := h
  exact st.right.right
theorem FldsS.row {w0 w : World} {A : SProp} {v : Value} {L : List FV} (h : FldsS w0 w A v L) (u : Value) :
    FldsS w0 (w.alloc (.cells #[u] 27)) (own 27 1 (.slice (some ⟨w.heap.size, 0, none⟩) 1 1) 1 [u] * A) v L := by
  obtain ⟨K, st, vals⟩ := h
  refine ⟨K, ((st.alloc (.cells #[u] 27)).own_blk (size := 1) (n := 1) (cap := 1) (xs := [u]) (Nat.le_refl 1) (by decide) rfl rfl).perm (by ac_rfl), fun y hy w hw => ?_⟩
  exact vals y hy w (hw.perm (show _ = own 27 1 (.slice (some ⟨_, 0, none⟩) 1 1) 1 [u] * (K * A) by ac_rfl)).right
theorem FldsS.sub {w0 w : World} {A : SProp} {v : Value} {L : List FV} (h : FldsS w0 w A v L) : ∃ a c, v = .slice a L.length c := by
  obtain ⟨K, st, vals⟩ := h
  exact st.reads.sub
theorem FldsS.reads {w0 w : World} {A : SProp} {v : Value} {L : List FV} (h : FldsS w0 w A v L) : FldsR w v L := by
  obtain ⟨K, st, vals⟩ := h
  exact ⟨st.reads, fun y hy => vals y hy w st.right⟩
theorem dup_none {t : Nat} {L : List FV} (h : ∀ y ∈ L, y.2.tag ≠ t) : dupV t L = false := by
  unfold dupV
  cases hd : L.dropWhile (lowT t) with
  | nil => rfl
  | cons y r =>
    have hm : y ∈ L := (List.dropWhile_suffix _).subset (by rw [hd]; exact List.mem_cons_self)
    simpa using h y hm
theorem dup_any {t : Nat} : ∀ {L : List FV}, Rising (fl L) → dupV t L = (fl L).any (fun f => f.tag == t)
  | [], _ => rfl
  | y :: r, h => by
    unfold Rising fl at h
    rw [List.map_cons, List.pairwise_cons] at h
    unfold dupV
    rw [List.dropWhile_cons]
    by_cases hlt : y.2.tag < t
    · have hne : (y.2.tag == t) = false := by rw [beq_eq_false_iff_ne]; omega
      have e1 : lowT t y = true := decide_eq_true hlt
      rw [e1, if_pos rfl]
      have ih := dup_any (t := t) (L := r) h.2
      unfold dupV at ih
      rw [ih]
      unfold fl
      rw [List.map_cons, List.any_cons, hne, Bool.false_or]
    · have e1 : lowT t y = false := decide_eq_false hlt
      rw [e1, if_neg (by decide)]
      unfold fl
      rw [List.map_cons, List.any_cons]
      simp only
      by_cases he : y.2.tag = t
      · simp [he]
      · have hb : (y.2.tag == t) = false := by rw [beq_eq_false_iff_ne]; exact he
        rw [hb, Bool.false_or]
        refine (List.any_eq_false.2 fun f hf => ?_).symm
        have := h.1 f hf
        simp; omega
/-- What put gives, of fields so far. -/
def PutS (w0 : World) (A : SProp) (L' : List FV) (b : Bool) (e : Ending) (w' : World) : Prop :=
  ∃ v', e = .returned (.tuple #[v', .bool b]) ∧ FldsS w0 w' A v' L'
theorem putS_any {w0 w : World} {A : SProp} {v : Value} {L : List FV} (h : FldsS w0 w A v L) (hL : L.length ≤ 2000) {a : Option Addr} {n c : Nat} {o : Fld} (hy : Stb w0 A (fun w => Reads w 1 (.slice a n c) o.vals.length (o.vals.map u64v))) :
    Calls Try.prog 43 #[v, .agg #[.int .u16 (o.tag : Int), .int .i64 o.kind, .slice a n c]] w (PutS w0 A (if dupV o.tag L then L else insV (.slice a n c, o) L) (!dupV o.tag L)) := by
  obtain ⟨K, st, vals⟩ := h
  refine (put_any st (fun y hy => ?_) hL a n c o).mono ?_
  · obtain ⟨a, c, e⟩ := (vals y hy w st.right).sub
    rw [e]; rfl
  · rintro e w' ⟨v', rfl, h⟩
    refine ⟨v', rfl, K, h, fun y hyL w hw => ?_⟩
    split at hyL
    · exact vals y hyL w hw
    · unfold insV at hyL
      rcases List.mem_append.1 hyL with hm | hm
      · exact vals y ((List.takeWhile_prefix _).subset hm) w hw
      · rcases List.mem_cons.1 hm with rfl | hm
        · exact hy w hw.right
        · exact vals y ((List.dropWhile_suffix _).subset hm) w hw
/-- .. of a tag that none has. -/
theorem putS_new {w0 w : World} {A : SProp} {v : Value} {L : List FV} (h : FldsS w0 w A v L) (hL : L.length ≤ 2000) {a : Option Addr} {n c : Nat} {o : Fld} (hy : Stb w0 A (fun w => Reads w 1 (.slice a n c) o.vals.length (o.vals.map u64v)))
    {l : List Fld} (hl : fl L = sortF l) (hn : ((l ++ [o]).map Fld.tag).Nodup) {t k : Int} (ht : t = o.tag) (hk : k = o.kind) :
    Calls Try.prog 43 #[v, .agg #[.int .u16 t, .int .i64 k, .slice a n c]] w (fun e w' => ∃ v' L', e = .returned (.tuple #[v', .bool true]) ∧ fl L' = sortF (l ++ [o]) ∧ FldsS w0 w' A v' L') := by
  subst ht hk
  have hd : dupV o.tag L = false := dup_none fun y hy e => by
    have hm : y.2 ∈ l := (sortF_perm l).subset (by rw [← hl]; exact List.mem_map_of_mem hy)
    rw [List.map_append, List.nodup_append] at hn
    exact hn.2.2 y.2.tag (List.mem_map_of_mem hm) o.tag (by simp) e
  refine (putS_any h hL hy).mono ?_
  rw [hd]
  rintro e w' ⟨v', rfl, h⟩
  exact ⟨v', _, rfl, by rw [if_neg (by decide), fl_insV, hl, sortF_snoc], h⟩
theorem two_any {w0 w : World} {B : SProp} (h : St w0 w B) (b : Bool) :
    Calls Try.prog 42 #[.bool b] w fun e w' => e = .returned (.int .u64 (twoN b : Nat)) ∧ St w0 w' B := by
  have H := Lib.hid h; clear h
  cases b
  · go_enter Try.func42, Try.ntmps42
    go_wp2_with fail
    go_ret
    exact ⟨rfl, H.out⟩
  · go_enter Try.func42, Try.ntmps42
    go_wp2_with fail
    go_ret
    exact ⟨rfl, H.out⟩
theorem ent_two (args : Array Value) (w : World) : (callFunc 42 args).run Try.prog w = .ok (.enter 42 args) w := enters_fn Try.func42 (by kernel_rfl) rfl args w
theorem elemVals : ElemT Try.prog 80 28 1 24 (.slice none 0 0) :=
  ⟨Try.underlying80, info_parts (by kernel_rfl), rfl, by decide⟩
theorem fl_len {L : List FV} {l : List Fld} (h : fl L = sortF l) : L.length = l.length := by
  have h1 := congrArg List.length h
  rw [fl, List.length_map, (sortF_perm _).length_eq] at h1
  exact h1
theorem pre_nodup {l m : List Fld} {p : PgD} {al lg : Bool} (h : l ++ m = baseL p al lg) : (l.map Fld.tag).Nodup := by
  have := baseL_nodup p al lg
  rw [← h, List.map_append, List.nodup_append] at this
  exact this.1
theorem baseL_len (p : PgD) (al lg : Bool) : (baseL p al lg).length ≤ 14 ∧ 12 ≤ (baseL p al lg).length := by
  unfold baseL base9 faxL cutL
  split <;> split <;> simp
set_option maxHeartbeats 40000000 in
theorem rfields_any {w0 w : World} {F : SProp} (h : St w0 w F) {p : PgD} {ao ac ar : Option Addr} {no nc nr co cc cr : Nat} {R : List FV}
    (hA : Stb w0 F (fun w => PgR w p (.slice ao no co) (.slice ac nc cc) (.slice ar nr cr) R)) (hlo : p.offs.length ≤ 100000) (hlc : p.cnts.length ≤ 100000) (hlr : p.rest.length ≤ 1000) (hlv : ∀ f ∈ p.rest, f.vals.length ≤ 100000) (hT : ∀ f ∈ p.rest, f.tag < 65536)
    (hper : p.per ≤ 1000) (al lg : Bool) :
    Calls Try.prog 12 #[.agg (pgC p (.slice ao no co) (.slice ac nc cc) (.slice ar nr cr)), .bool al, .bool lg] w (FldsOut w0 F (fieldsV p al lg) (fieldsE p al lg)) := by
  have HA := Lib.hid hA
  have h1 := h.alloc (.cells (pgC p (.slice ao no co) (.slice ac nc cc) (.slice ar nr cr)) 30)
  have H1 := Lib.hid h1
  obtain ⟨LV, hLV⟩ : ∃ LV, LV = fieldsV p al lg := ⟨_, rfl⟩
  obtain ⟨er, her⟩ : ∃ er, er = fieldsE p al lg := ⟨_, rfl⟩
  rw [← hLV, ← her]
  have HLVV := Lib.hid hLV; have Her := Lib.hid her
  clear hLV her
  obtain ⟨e1, e2⟩ : no = p.offs.length ∧ nc = p.cnts.length := ⟨by
    obtain ⟨a, c, e⟩ := (hA w h).offs.sub; cases e; rfl, by
    obtain ⟨a, c, e⟩ := (hA w h).cnts.sub; cases e; rfl⟩
  have e3 : nr = R.length := by
    obtain ⟨a, c, e⟩ := (hA w h).rest.row.sub; cases e; rfl
  have HE := Lib.hid (And.intro e1 (And.intro e2 e3))
  clear e1 e2 e3
  have HLV := Lib.hid hlv; have HTT := Lib.hid hT; have HN := Lib.hid (And.intro hlo (And.intro hlc hlr))
  have hcell : ∀ W, St w0 W (blk w.heap.size (.cells (pgC p (.slice ao no co) (.slice ac nc cc) (.slice ar nr cr)) 30) * F) → ∀ i v, (pgC p (.slice ao no co) (.slice ac nc cc) (.slice ar nr cr))[i]? = some v → W.cell? ⟨w.heap.size, i, none⟩ = some v := fun W h i v hv => h.cell i hv
  have HC := Lib.hid hcell
  clear hA h h1 hlv hT hlo hlc hlr hcell
  unfold pgC at H1 HC
  unfold pgC
  go_enter Try.func12, Try.ntmps12
  go_upto_region 1 with (fail)
  generalize hb0 : w.heap.size = b0 at *
  have HS : Hid (St w0 _ (blk b0 (.cells #[.int .i64 p.lay.width, .int .i64 p.lay.height, .bool p.lay.tiled, .int .i64 p.lay.w, .int .i64 p.lay.h, .int .i64 p.per, .int .i64 p.bits, .int .u64 (p.photo : Int), .bool p.planar, .int .i64 p.scheme, .bool p.predict, .bool p.low, .bool p.two, .slice ao no co, .slice ac nc cc, .slice ar nr cr] 30) * F)) := H1
  clear H1 hb0
  generalize World.alloc _ _ = wa at *
  obtain ⟨AA, hAA⟩ : ∃ AA, AA = (blk b0 (.cells #[.int .i64 p.lay.width, .int .i64 p.lay.height, .bool p.lay.tiled, .int .i64 p.lay.w, .int .i64 p.lay.h, .int .i64 p.per, .int .i64 p.bits, .int .u64 (p.photo : Int), .bool p.planar, .int .i64 p.scheme, .bool p.predict, .bool p.low, .bool p.two, .slice ao no co, .slice ac nc cc, .slice ar nr cr] 30) * F) := ⟨_, rfl⟩
  rw [← hAA] at HS HC
  have HAA := Lib.hid hAA
  obtain ⟨PGB, hPGB⟩ : ∃ PGB, AA = PGB * F := ⟨_, hAA⟩
  have HPGB := Lib.hid hPGB
  clear hAA hPGB
  have T := elemU64
  obtain ⟨m, hm⟩ : ∃ m : Nat, m = p.per.toNat := ⟨_, rfl⟩
  have hm2 : m ≤ 1000 := by omega
  have HM := Lib.hid hm
  clear hm
  go_wp2_with fail
  go_loopw [8, 9] (fun vb vi wr => ∃ k : Nat, k ≤ m ∧ vi = .int .i64 k ∧ St w0 wr (own 27 1 vb k (List.replicate k (u64v (u64N p.bits))) * AA)) (fun vb vi _ => m - (intOf vi).toNat)
  case atStart => exact ⟨0, by omega, rfl, HS.out.own_nil _ _⟩
  case round =>
    clear HS
    obtain ⟨k, hk, rfl, hst⟩ := hrel
    have c5 : wr.cell? ⟨b0, 5, none⟩ = some (.int .i64 p.per) := HC.out _ hst.right 5 _ rfl
    by_cases hkn : k < m
    · have hkI : (k : Int) < p.per := by have := HM.out; omega
      have c6 : wr.cell? ⟨b0, 6, none⟩ = some (.int .i64 p.bits) := HC.out _ hst.right 6 _ rfl
      have hw := wrap_u64N p.bits
      obtain ⟨ab, cb, rfl⟩ := hst.reads.sub
      have HST := Lib.hid hst
      clear hst
      go_wp2_with (at_builtin; apply stop)
      have H3 := Lib.hid (HST.out.alloc (.cells #[.int .u64 (u64N p.bits : Int)] 27))
      refine on (wpList_append_sep T rfl _ _ rfl rfl (H3.out.right) rfl (x := .slice (some ⟨wr.heap.size, 0, none⟩) 1 1) (m := 1) (news := [.int .u64 (u64N p.bits : Int)]) (H3.out.own_blk (Nat.le_refl 1) (by decide) rfl rfl).reads (by intro u hu; rw [List.mem_singleton] at hu; subst hu; rfl) (by unfold maxLen; omega) (by omega) ?_)
      intro v' w' h7 _
      have H7 := Lib.hid h7
      clear h7 H3 HST
      go_wp2_with fail
      refine ⟨⟨k + 1, by omega, by go_num, ?_⟩, by simp [intOf]; omega⟩
      rw [List.replicate_succ']
      exact H7.out
    · obtain rfl : m = k := by omega
      have hkI : ¬ (m : Int) < p.per := by have := HM.out; omega
      obtain ⟨ab, cb, rfl⟩ := hst.reads.sub
      have HST := Lib.hid hst
      clear hst
      go_upto_if 36 with (fail)
      clear c5
      go_cut [10] from 36 to 36 (fun x wx => x = .int .i64 (wideK lg) ∧ wx = wr)
      case first =>
        cases lg
        · go_wp2_with fail
          go_meet
          exact ⟨rfl, rfl⟩
        · go_wp2_with fail
          go_meet
          exact ⟨rfl, rfl⟩
      obtain ⟨rfl, rfl⟩ := hcut
      obtain ⟨BITS, hBITS⟩ : ∃ BITS, BITS = own 27 1 (.slice ab m cb) m (List.replicate m (u64v (u64N p.bits))) := ⟨_, rfl⟩
      rw [← hBITS] at HST
      have HS := HST
      clear HST
      have HB := Lib.hid hBITS
      clear hBITS
      obtain ⟨TG, hTG⟩ : ∃ TG : List Value, TG = (base9 p).map (fun f => Value.int .i64 (f.tag : Int)) := ⟨_, rfl⟩
      obtain ⟨KD, hKD⟩ : ∃ KD : List Value, KD = (base9 p).map (fun f => Value.int .i64 f.kind) := ⟨_, rfl⟩
      have hI1 := (HS.out.alloc (.cells #[.int .i64 256, .int .i64 257, .int .i64 258, .int .i64 259, .int .i64 262, .int .i64 266, .int .i64 277, .int .i64 284, .int .i64 317] 3)).own_blk (size := 1) (n := 9) (cap := 9) (xs := TG) (Nat.le_refl _) (by decide) rfl (by rw [hTG]; rfl)
      have hI2 := (hI1.alloc (.cells #[.int .i64 4, .int .i64 4, .int .i64 3, .int .i64 3, .int .i64 3, .int .i64 3, .int .i64 3, .int .i64 3, .int .i64 3] 3)).own_blk (size := 1) (n := 9) (cap := 9) (xs := KD) (Nat.le_refl _) (by decide) rfl (by rw [hKD]; rfl)
      have hsz : (wc.alloc (.cells #[.int .i64 256, .int .i64 257, .int .i64 258, .int .i64 259, .int .i64 262, .int .i64 266, .int .i64 277, .int .i64 284, .int .i64 317] 3)).heap.size = wc.heap.size + 1 := Array.size_push _
      rw [hsz] at hI2
      have HTG := Lib.hid hTG; have HKD := Lib.hid hKD
      have HI2 := Lib.hid hI2
      clear hI1 hI2 hTG hKD HS hsz
      go_upto_region 11 with (fail)
      generalize wc.heap.size = g1 at *
      generalize g1 + 1 = g2 at *
      generalize hww : (World.alloc (World.alloc wc _) _) = W2 at *
      clear hww
      obtain ⟨BB, hBB⟩ : ∃ BB, BB = own 3 1 (.slice (some ⟨g2, 0, none⟩) 9 9) 9 KD * (own 3 1 (.slice (some ⟨g1, 0, none⟩) 9 9) 9 TG * AA) := ⟨_, rfl⟩
      have HS : Hid (St w0 W2 (BITS * BB)) := Lib.hid (HI2.out.perm (by rw [hBB]; ac_rfl))
      have HBB := Lib.hid hBB
      clear hBB HI2
      go_cut [13] from 39 to 73 (fun x wx => ∃ Y : List FV, fl Y = base9 p ∧ St w0 wx (own 28 1 x 9 (Y.map Prod.fst) * (valsP Y * BB)))
      case first =>
        have q1 := wrap_u64N p.lay.width
        have q2 := wrap_u64N p.lay.height
        have q3 := wrap_u64N p.scheme
        have q4 := wrap_u64N p.per
        have hSd := HS.out.drew
        refine wp_region_noPanic ?_
        refine region_till (S := fun W : World => St w0 W (BITS * BB)) (k := 35) (by kernel_rfl) ?_
        have hS : St w0 _ (BITS * BB) := (fun _ h => h) _ hSd
        refine till_take0 (i := 0) (oi := ?_) (v := ?_) ?_ (by kernel_rfl) (by kernel_rfl) (by kernel_rfl) (by decide) (fun _ _ _ h => h.elim) (by assumption) (.inl ⟨?_, fun w => ?_⟩) ?_
        rotate_left 2
        · (simp only [List.getElem?_toArray, List.getElem?_cons_succ, List.getElem?_cons_zero]; rfl)
        · rfl
        · (go_simp; try with_reducible rfl)
        simp only [Act.put, List.setIfInBounds_toArray, List.set_cons_zero, List.set_cons_succ]
        refine till_take0 (i := 1) (oi := ?_) (v := ?_) ?_ (by kernel_rfl) (by kernel_rfl) (by kernel_rfl) (by decide) (fun _ _ _ h => h.elim) (by assumption) (.inl ⟨?_, fun w => ?_⟩) ?_
        rotate_left 2
        · (simp only [List.getElem?_toArray, List.getElem?_cons_succ, List.getElem?_cons_zero]; rfl)
        · rfl
        · (go_simp; try with_reducible rfl)
        simp only [Act.put, List.setIfInBounds_toArray, List.set_cons_zero, List.set_cons_succ]
        refine till_take (i := 2) (oi := ?_) (v := ?_) ?_ (by kernel_rfl) (by kernel_rfl) (by kernel_rfl) (by kernel_rfl) (by kernel_rfl) (fun _ _ _ h => h.elim) (by assumption) (.inl ⟨?_, fun w hSw => ?_⟩) ?_
        rotate_left 2
        · (simp only [List.getElem?_toArray, List.getElem?_cons_succ, List.getElem?_cons_zero]; rfl)
        · rfl
        · (have hc : w.cell? ⟨b0, 0, none⟩ = some (.int .i64 p.lay.width) := HC.out w ((hSw.right.perm HBB.out).right.right) 0 _ rfl; clear hSw; go_simp; try with_reducible rfl)
        simp only [Act.put, List.setIfInBounds_toArray, List.set_cons_zero, List.set_cons_succ]
        refine till_take0 (i := 3) (oi := ?_) (v := ?_) ?_ (by kernel_rfl) (by kernel_rfl) (by kernel_rfl) (by decide) (fun _ _ _ h => h.elim) (by assumption) (.inl ⟨?_, fun w => ?_⟩) ?_
        rotate_left 2
        · (simp only [List.getElem?_toArray, List.getElem?_cons_succ, List.getElem?_cons_zero]; rfl)
        · rfl
        · (go_simp; try with_reducible rfl)
        simp only [Act.put, List.setIfInBounds_toArray, List.set_cons_zero, List.set_cons_succ]
        refine till_take0 (i := 5) (oi := ?_) (v := ?_) ?_ (by kernel_rfl) (by kernel_rfl) (by kernel_rfl) (by decide) (fun _ _ _ h => h.elim) (by assumption) (.inl ⟨?_, fun w => ?_⟩) ?_
        rotate_left 2
        · (simp only [List.getElem?_toArray, List.getElem?_cons_succ, List.getElem?_cons_zero]; rfl)
        · rfl
        · (go_simp; try with_reducible rfl)
        simp only [Act.put, List.setIfInBounds_toArray, List.set_cons_zero, List.set_cons_succ]
        refine till_take0 (i := 6) (oi := ?_) (v := ?_) ?_ (by kernel_rfl) (by kernel_rfl) (by kernel_rfl) (by decide) (fun _ _ _ h => h.elim) (by assumption) (.inl ⟨?_, fun w => ?_⟩) ?_
        rotate_left 2
        · (simp only [List.getElem?_toArray, List.getElem?_cons_succ, List.getElem?_cons_zero]; rfl)
        · rfl
        · (go_simp; try with_reducible rfl)
        simp only [Act.put, List.setIfInBounds_toArray, List.set_cons_zero, List.set_cons_succ]
        refine till_take (i := 7) (oi := ?_) (v := ?_) ?_ (by kernel_rfl) (by kernel_rfl) (by kernel_rfl) (by kernel_rfl) (by kernel_rfl) (fun _ _ _ h => h.elim) (by assumption) (.inl ⟨?_, fun w hSw => ?_⟩) ?_
        rotate_left 2
        · (simp only [List.getElem?_toArray, List.getElem?_cons_succ, List.getElem?_cons_zero]; rfl)
        · rfl
        · (have hc : w.cell? ⟨b0, 1, none⟩ = some (.int .i64 p.lay.height) := HC.out w ((hSw.right.perm HBB.out).right.right) 1 _ rfl; clear hSw; go_simp; try with_reducible rfl)
        simp only [Act.put, List.setIfInBounds_toArray, List.set_cons_zero, List.set_cons_succ]
        refine till_take0 (i := 8) (oi := ?_) (v := ?_) ?_ (by kernel_rfl) (by kernel_rfl) (by kernel_rfl) (by decide) (fun _ _ _ h => h.elim) (by assumption) (.inl ⟨?_, fun w => ?_⟩) ?_
        rotate_left 2
        · (simp only [List.getElem?_toArray, List.getElem?_cons_succ, List.getElem?_cons_zero]; rfl)
        · rfl
        · (go_simp; try with_reducible rfl)
        simp only [Act.put, List.setIfInBounds_toArray, List.set_cons_zero, List.set_cons_succ]
        refine till_take0 (i := 10) (oi := ?_) (v := ?_) ?_ (by kernel_rfl) (by kernel_rfl) (by kernel_rfl) (by decide) (fun _ _ _ h => h.elim) (by assumption) (.inl ⟨?_, fun w => ?_⟩) ?_
        rotate_left 2
        · (simp only [List.getElem?_toArray, List.getElem?_cons_succ, List.getElem?_cons_zero]; rfl)
        · rfl
        · (go_simp; try with_reducible rfl)
        simp only [Act.put, List.setIfInBounds_toArray, List.set_cons_zero, List.set_cons_succ]
        refine till_take0 (i := 11) (oi := ?_) (v := ?_) ?_ (by kernel_rfl) (by kernel_rfl) (by kernel_rfl) (by decide) (fun _ _ _ h => h.elim) (by assumption) (.inl ⟨?_, fun w => ?_⟩) ?_
        rotate_left 2
        · (simp only [List.getElem?_toArray, List.getElem?_cons_succ, List.getElem?_cons_zero]; rfl)
        · rfl
        · (go_simp; try with_reducible rfl)
        simp only [Act.put, List.setIfInBounds_toArray, List.set_cons_zero, List.set_cons_succ]
        refine till_take (i := 12) (oi := ?_) (v := ?_) ?_ (by kernel_rfl) (by kernel_rfl) (by kernel_rfl) (by kernel_rfl) (by kernel_rfl) (fun _ _ _ h => h.elim) (by assumption) (.inl ⟨?_, fun w hSw => ?_⟩) ?_
        rotate_left 2
        · (simp only [List.getElem?_toArray, List.getElem?_cons_succ, List.getElem?_cons_zero]; rfl)
        · rfl
        · (have hc : w.cell? ⟨b0, 9, none⟩ = some (.int .i64 p.scheme) := HC.out w ((hSw.right.perm HBB.out).right.right) 9 _ rfl; clear hSw; go_simp; try with_reducible rfl)
        simp only [Act.put, List.setIfInBounds_toArray, List.set_cons_zero, List.set_cons_succ]
        refine till_take0 (i := 13) (oi := ?_) (v := ?_) ?_ (by kernel_rfl) (by kernel_rfl) (by kernel_rfl) (by decide) (fun _ _ _ h => h.elim) (by assumption) (.inl ⟨?_, fun w => ?_⟩) ?_
        rotate_left 2
        · (simp only [List.getElem?_toArray, List.getElem?_cons_succ, List.getElem?_cons_zero]; rfl)
        · rfl
        · (go_simp; try with_reducible rfl)
        simp only [Act.put, List.setIfInBounds_toArray, List.set_cons_zero, List.set_cons_succ]
        refine till_take0 (i := 15) (oi := ?_) (v := ?_) ?_ (by kernel_rfl) (by kernel_rfl) (by kernel_rfl) (by decide) (fun _ _ _ h => h.elim) (by assumption) (.inl ⟨?_, fun w => ?_⟩) ?_
        rotate_left 2
        · (simp only [List.getElem?_toArray, List.getElem?_cons_succ, List.getElem?_cons_zero]; rfl)
        · rfl
        · (go_simp; try with_reducible rfl)
        simp only [Act.put, List.setIfInBounds_toArray, List.set_cons_zero, List.set_cons_succ]
        refine till_take (i := 16) (oi := ?_) (v := ?_) ?_ (by kernel_rfl) (by kernel_rfl) (by kernel_rfl) (by kernel_rfl) (by kernel_rfl) (fun _ _ _ h => h.elim) (by assumption) (.inl ⟨?_, fun w hSw => ?_⟩) ?_
        rotate_left 2
        · (simp only [List.getElem?_toArray, List.getElem?_cons_succ, List.getElem?_cons_zero]; rfl)
        · rfl
        · (have hc : w.cell? ⟨b0, 7, none⟩ = some (.int .u64 (p.photo : Int)) := HC.out w ((hSw.right.perm HBB.out).right.right) 7 _ rfl; clear hSw; go_simp; try with_reducible rfl)
        simp only [Act.put, List.setIfInBounds_toArray, List.set_cons_zero, List.set_cons_succ]
        refine till_take0 (i := 18) (oi := ?_) (v := ?_) ?_ (by kernel_rfl) (by kernel_rfl) (by kernel_rfl) (by decide) (fun _ _ _ h => h.elim) (by assumption) (.inl ⟨?_, fun w => ?_⟩) ?_
        rotate_left 2
        · (simp only [List.getElem?_toArray, List.getElem?_cons_succ, List.getElem?_cons_zero]; rfl)
        · rfl
        · (go_simp; try with_reducible rfl)
        simp only [Act.put, List.setIfInBounds_toArray, List.set_cons_zero, List.set_cons_succ]
        refine till_take (i := 19) (oi := ?_) (v := ?_) ?_ (by kernel_rfl) (by kernel_rfl) (by kernel_rfl) (by kernel_rfl) (by kernel_rfl) (fun _ _ _ h => h.elim) (by assumption) (.inl ⟨?_, fun w hSw => ?_⟩) ?_
        rotate_left 2
        · (simp only [List.getElem?_toArray, List.getElem?_cons_succ, List.getElem?_cons_zero]; rfl)
        · rfl
        · (have hc : w.cell? ⟨b0, 11, none⟩ = some (.bool p.low) := HC.out w ((hSw.right.perm HBB.out).right.right) 11 _ rfl; clear hSw; go_simp; try with_reducible rfl)
        simp only [Act.put, List.setIfInBounds_toArray, List.set_cons_zero, List.set_cons_succ]
        refine till_take0 (i := 22) (oi := ?_) (v := ?_) ?_ (by kernel_rfl) (by kernel_rfl) (by kernel_rfl) (by decide) (fun _ _ _ h => h.elim) (by assumption) (.inl ⟨?_, fun w => ?_⟩) ?_
        rotate_left 2
        · (simp only [List.getElem?_toArray, List.getElem?_cons_succ, List.getElem?_cons_zero]; rfl)
        · rfl
        · (go_simp; try with_reducible rfl)
        simp only [Act.put, List.setIfInBounds_toArray, List.set_cons_zero, List.set_cons_succ]
        refine till_take (i := 23) (oi := ?_) (v := ?_) ?_ (by kernel_rfl) (by kernel_rfl) (by kernel_rfl) (by kernel_rfl) (by kernel_rfl) (fun _ _ _ h => h.elim) (by assumption) (.inl ⟨?_, fun w hSw => ?_⟩) ?_
        rotate_left 2
        · (simp only [List.getElem?_toArray, List.getElem?_cons_succ, List.getElem?_cons_zero]; rfl)
        · rfl
        · (have hc : w.cell? ⟨b0, 5, none⟩ = some (.int .i64 p.per) := HC.out w ((hSw.right.perm HBB.out).right.right) 5 _ rfl; clear hSw; go_simp; try with_reducible rfl)
        simp only [Act.put, List.setIfInBounds_toArray, List.set_cons_zero, List.set_cons_succ]
        refine till_take0 (i := 24) (oi := ?_) (v := ?_) ?_ (by kernel_rfl) (by kernel_rfl) (by kernel_rfl) (by decide) (fun _ _ _ h => h.elim) (by assumption) (.inl ⟨?_, fun w => ?_⟩) ?_
        rotate_left 2
        · (simp only [List.getElem?_toArray, List.getElem?_cons_succ, List.getElem?_cons_zero]; rfl)
        · rfl
        · (go_simp; try with_reducible rfl)
        simp only [Act.put, List.setIfInBounds_toArray, List.set_cons_zero, List.set_cons_succ]
        refine till_take0 (i := 26) (oi := ?_) (v := ?_) ?_ (by kernel_rfl) (by kernel_rfl) (by kernel_rfl) (by decide) (fun _ _ _ h => h.elim) (by assumption) (.inl ⟨?_, fun w => ?_⟩) ?_
        rotate_left 2
        · (simp only [List.getElem?_toArray, List.getElem?_cons_succ, List.getElem?_cons_zero]; rfl)
        · rfl
        · (go_simp; try with_reducible rfl)
        simp only [Act.put, List.setIfInBounds_toArray, List.set_cons_zero, List.set_cons_succ]
        refine till_take (i := 27) (oi := ?_) (v := ?_) ?_ (by kernel_rfl) (by kernel_rfl) (by kernel_rfl) (by kernel_rfl) (by kernel_rfl) (fun _ _ _ h => h.elim) (by assumption) (.inl ⟨?_, fun w hSw => ?_⟩) ?_
        rotate_left 2
        · (simp only [List.getElem?_toArray, List.getElem?_cons_succ, List.getElem?_cons_zero]; rfl)
        · rfl
        · (have hc : w.cell? ⟨b0, 8, none⟩ = some (.bool p.planar) := HC.out w ((hSw.right.perm HBB.out).right.right) 8 _ rfl; clear hSw; go_simp; try with_reducible rfl)
        simp only [Act.put, List.setIfInBounds_toArray, List.set_cons_zero, List.set_cons_succ]
        refine till_take0 (i := 30) (oi := ?_) (v := ?_) ?_ (by kernel_rfl) (by kernel_rfl) (by kernel_rfl) (by decide) (fun _ _ _ h => h.elim) (by assumption) (.inl ⟨?_, fun w => ?_⟩) ?_
        rotate_left 2
        · (simp only [List.getElem?_toArray, List.getElem?_cons_succ, List.getElem?_cons_zero]; rfl)
        · rfl
        · (go_simp; try with_reducible rfl)
        simp only [Act.put, List.setIfInBounds_toArray, List.set_cons_zero, List.set_cons_succ]
        refine till_take (i := 31) (oi := ?_) (v := ?_) ?_ (by kernel_rfl) (by kernel_rfl) (by kernel_rfl) (by kernel_rfl) (by kernel_rfl) (fun _ _ _ h => h.elim) (by assumption) (.inl ⟨?_, fun w hSw => ?_⟩) ?_
        rotate_left 2
        · (simp only [List.getElem?_toArray, List.getElem?_cons_succ, List.getElem?_cons_zero]; rfl)
        · rfl
        · (have hc : w.cell? ⟨b0, 10, none⟩ = some (.bool p.predict) := HC.out w ((hSw.right.perm HBB.out).right.right) 10 _ rfl; clear hSw; go_simp; try with_reducible rfl)
        simp only [Act.put, List.setIfInBounds_toArray, List.set_cons_zero, List.set_cons_succ]
        refine till_itemsB (fun _ h => h) (its := [PItem.row 27 4 (.int .u64 (u64N p.lay.width : Int)), PItem.row 27 9 (.int .u64 (u64N p.lay.height : Int)), PItem.row 27 14 (.int .u64 (u64N p.scheme : Int)), PItem.row 27 17 (.int .u64 (p.photo : Int)), PItem.call 20 (.int .u64 (twoN p.low : Nat)), PItem.rowOf 27 21 20 (.int .u64 (twoN p.low : Nat)), PItem.row 27 25 (.int .u64 (u64N p.per : Int)), PItem.call 28 (.int .u64 (twoN p.planar : Nat)), PItem.rowOf 27 29 28 (.int .u64 (twoN p.planar : Nat)), PItem.call 32 (.int .u64 (twoN p.predict : Nat)), PItem.rowOf 27 33 32 (.int .u64 (twoN p.predict : Nat))]) [(4, 4), (9, 9), (14, 14), (17, 17), (20, 20), (21, 20), (25, 25), (28, 28), (29, 28), (32, 32), (33, 32)] [43, 48, 53, 56, 59, 60, 64, 67, 68, 71, 72] 230 rfl rfl (by kernel_rfl) rfl ?_ 2 rfl hSd ?_
        · intro t ht
          simp only [List.mem_cons, List.not_mem_nil, or_false] at ht
          rcases ht with rfl | rfl | rfl | rfl | rfl | rfl | rfl | rfl | rfl | rfl | rfl
          · exact PItem.row_ok elemU64 (i := 4) rfl rfl rfl 42 rfl (by decide) rfl rfl
          · exact PItem.row_ok elemU64 (i := 9) rfl rfl rfl 47 rfl (by decide) rfl rfl
          · exact PItem.row_ok elemU64 (i := 14) rfl rfl rfl 52 rfl (by decide) rfl rfl
          · exact PItem.row_ok elemU64 (i := 17) rfl rfl rfl 55 rfl (by decide) rfl rfl
          · exact PItem.call_okF (i := 20) (args := #[.bool p.low]) rfl rfl rfl rfl ent_two (fun a ha => (map1 _ _).trans (by rw [ha 58 (by decide)]; rfl)) (fun w B h => two_any h _)
          · exact PItem.rowOf_ok elemU64 (i := 21) (j := 20) rfl rfl rfl rfl (by decide) (fun _ _ h => h) rfl
          · exact PItem.row_ok elemU64 (i := 25) rfl rfl rfl 63 rfl (by decide) rfl rfl
          · exact PItem.call_okF (i := 28) (args := #[.bool p.planar]) rfl rfl rfl rfl ent_two (fun a ha => (map1 _ _).trans (by rw [ha 66 (by decide)]; rfl)) (fun w B h => two_any h _)
          · exact PItem.rowOf_ok elemU64 (i := 29) (j := 28) rfl rfl rfl rfl (by decide) (fun _ _ h => h) rfl
          · exact PItem.call_okF (i := 32) (args := #[.bool p.predict]) rfl rfl rfl rfl ent_two (fun a ha => (map1 _ _).trans (by rw [ha 70 (by decide)]; rfl)) (fun w B h => two_any h _)
          · exact PItem.rowOf_ok elemU64 (i := 33) (j := 32) rfl rfl rfl rfl (by decide) (fun _ _ h => h) rfl
        intro vs w9 hR h9
        have r4 := hR (PItem.row 27 4 (.int .u64 (u64N p.lay.width : Int))) (List.mem_of_getElem? (i := 0) rfl)
        have r9 := hR (PItem.row 27 9 (.int .u64 (u64N p.lay.height : Int))) (List.mem_of_getElem? (i := 1) rfl)
        have r14 := hR (PItem.row 27 14 (.int .u64 (u64N p.scheme : Int))) (List.mem_of_getElem? (i := 2) rfl)
        have r17 := hR (PItem.row 27 17 (.int .u64 (p.photo : Int))) (List.mem_of_getElem? (i := 3) rfl)
        have r20 := hR (PItem.call 20 (.int .u64 (twoN p.low : Nat))) (List.mem_of_getElem? (i := 4) rfl)
        have r21 := hR (PItem.rowOf 27 21 20 (.int .u64 (twoN p.low : Nat))) (List.mem_of_getElem? (i := 5) rfl)
        have r25 := hR (PItem.row 27 25 (.int .u64 (u64N p.per : Int))) (List.mem_of_getElem? (i := 6) rfl)
        have r28 := hR (PItem.call 28 (.int .u64 (twoN p.planar : Nat))) (List.mem_of_getElem? (i := 7) rfl)
        have r29 := hR (PItem.rowOf 27 29 28 (.int .u64 (twoN p.planar : Nat))) (List.mem_of_getElem? (i := 8) rfl)
        have r32 := hR (PItem.call 32 (.int .u64 (twoN p.predict : Nat))) (List.mem_of_getElem? (i := 9) rfl)
        have r33 := hR (PItem.rowOf 27 33 32 (.int .u64 (twoN p.predict : Nat))) (List.mem_of_getElem? (i := 10) rfl)
        change anyTill _ _ _ _ _ _ _ _ (putsR _ [(43, vs 4), (48, vs 9), (53, vs 14), (56, vs 17), (59, vs 20), (60, vs 21), (64, vs 25), (67, vs 28), (68, vs 29), (71, vs 32), (72, vs 33)]) _
        have h9' : St w0 w9 (prodL [own 27 1 (vs 4) 1 [.int .u64 (u64N p.lay.width : Int)], own 27 1 (vs 9) 1 [.int .u64 (u64N p.lay.height : Int)], own 27 1 (vs 14) 1 [.int .u64 (u64N p.scheme : Int)], own 27 1 (vs 17) 1 [.int .u64 (p.photo : Int)], emp, own 27 1 (vs 21) 1 [.int .u64 (twoN p.low : Nat)], own 27 1 (vs 25) 1 [.int .u64 (u64N p.per : Int)], emp, own 27 1 (vs 29) 1 [.int .u64 (twoN p.planar : Nat)], emp, own 27 1 (vs 33) 1 [.int .u64 (twoN p.predict : Nat)]] * (BITS * BB)) := h9
        clear h9 hR
        obtain ⟨a4, c4, e4⟩ : ∃ a c, vs 4 = .slice a 1 c := r4
        obtain ⟨a9, c9, e9⟩ : ∃ a c, vs 9 = .slice a 1 c := r9
        obtain ⟨a14, c14, e14⟩ : ∃ a c, vs 14 = .slice a 1 c := r14
        obtain ⟨a17, c17, e17⟩ : ∃ a c, vs 17 = .slice a 1 c := r17
        have e20 : vs 20 = .int .u64 (twoN p.low : Nat) := r20
        obtain ⟨a21, c21, e21⟩ : ∃ a c, vs 21 = .slice a 1 c := r21
        obtain ⟨a25, c25, e25⟩ : ∃ a c, vs 25 = .slice a 1 c := r25
        have e28 : vs 28 = .int .u64 (twoN p.planar : Nat) := r28
        obtain ⟨a29, c29, e29⟩ : ∃ a c, vs 29 = .slice a 1 c := r29
        have e32 : vs 32 = .int .u64 (twoN p.predict : Nat) := r32
        obtain ⟨a33, c33, e33⟩ : ∃ a c, vs 33 = .slice a 1 c := r33
        simp only [e4, e9, e14, e17, e20, e21, e25, e28, e29, e32, e33] at h9' ⊢
        clear e33 e32 r32 e29 e28 r28 e25 e21 e20 r20 e17 e14 e9 e4
        simp only [prodL, emp_star, star_emp] at h9'
        simp only [putsR, Act.put, List.setIfInBounds_toArray, List.set_cons_zero, List.set_cons_succ]
        -- END 11
        have h10 := h9'.alloc (.cells #[.slice a4 1 c4, .slice a9 1 c9, .slice ab m cb, .slice a14 1 c14, .slice a17 1 c17, .slice a21 1 c21, .slice a25 1 c25, .slice a29 1 c29, .slice a33 1 c33] 28)
        refine till_one (i := 34) (by kernel_rfl) ?_
        refine wpOp_step (by rfl) fun K hK => ?_
        go_simp
        refine hK _ _ ⟨fun e => h10.right.right, ?_⟩
        clear hK K
        refine till_one (i := 35) (by kernel_rfl) ?_
        refine wpOp_step (by rfl) fun K hK => ?_
        go_simp
        refine hK _ _ ⟨fun e => h10.right.right, ?_⟩
        clear hK K
        refine ⟨(by kernel_rfl), NoPanic.normal ?_⟩
        go_wp2_with fail
        go_meet
        have hbits : BITS = own 27 1 (.slice ab m cb) (bitsR p).length ((bitsR p).map u64v) := by rw [HB.out, bitsR, List.length_replicate, List.map_replicate, HM.out]
        obtain ⟨Y, hY⟩ : ∃ Y : List FV, Y = [(.slice a4 1 c4, ⟨256, 4, [u64N p.lay.width]⟩), (.slice a9 1 c9, ⟨257, 4, [u64N p.lay.height]⟩), (.slice ab m cb, ⟨258, 3, bitsR p⟩), (.slice a14 1 c14, ⟨259, 3, [u64N p.scheme]⟩), (.slice a17 1 c17, ⟨262, 3, [p.photo]⟩), (.slice a21 1 c21, ⟨266, 3, [twoN p.low]⟩), (.slice a25 1 c25, ⟨277, 3, [u64N p.per]⟩), (.slice a29 1 c29, ⟨284, 3, [twoN p.planar]⟩), (.slice a33 1 c33, ⟨317, 3, [twoN p.predict]⟩)] := ⟨_, rfl⟩
        have h11 := h10.own_blk (size := 1) (n := 9) (cap := 9) (xs := Y.map Prod.fst) (Nat.le_refl _) (by decide) rfl (by rw [hY]; rfl)
        refine ⟨Y, by rw [hY]; rfl, ?_⟩
        refine h11.perm ?_
        congr 1
        rw [hY, hbits]
        simp only [valsP, star_emp, List.length_cons, List.length_nil, List.map_cons, List.map_nil, Nat.zero_add]
        ac_rfl
      obtain ⟨Y, hY, hst⟩ := hcut
      obtain ⟨a3, k3, rfl⟩ := hst.reads.sub
      obtain ⟨_, ⟨_, h90, _⟩ | ⟨g3, cap3, cur3, e3, _⟩⟩ := hst.own_split
      · cases h90
      obtain rfl : a3 = some ⟨g3, 0, none⟩ := by simp only [Value.slice.injEq] at e3; exact e3.1
      clear e3
      obtain ⟨CC, hCC⟩ : ∃ CC, CC = own 28 1 (.slice (some ⟨g3, 0, none⟩) 9 k3) 9 (Y.map Prod.fst) * (valsP Y * BB) := ⟨_, rfl⟩
      rw [← hCC] at hst
      have HCC := Lib.hid hCC
      have hYl : Y.length = 9 := by have := congrArg List.length hY; simpa [fl, base9] using this
      have HY := Lib.hid hY; have HYL := Lib.hid hYl
      have hAAW : ∀ W, St w0 W CC → St w0 W AA := fun W h => (((h.perm hCC).right.right).perm HBB.out).right.right
      have HAAW := Lib.hid hAAW
      have hcells : ∀ (k : Nat) (y : FV), Y[k]? = some y → ∀ W, St w0 W CC → W.cell? ⟨g1, k, none⟩ = some (.int .i64 (y.2.tag : Int)) ∧ W.cell? ⟨g2, k, none⟩ = some (.int .i64 y.2.kind) ∧ W.cell? ⟨g3, k, none⟩ = some y.1 := by
        intro k y hk W h
        have hk2 : (base9 p)[k]? = some y.2 := by rw [← hY, fl, List.getElem?_map, hk]; rfl
        have h1 := h.perm hCC
        have h2 := h1.right.right.perm HBB.out
        have r3 := h1.reads
        have r2 := h2.reads
        have r1 := h2.right.reads
        obtain ⟨_, ⟨e, _⟩ | ⟨x3, _, e3, _, _, q3⟩⟩ := r3
        · cases e
        obtain ⟨_, ⟨e, _⟩ | ⟨x2, _, e2, _, _, q2⟩⟩ := r2
        · cases e
        obtain ⟨_, ⟨e, _⟩ | ⟨x1, _, e1, _, _, q1⟩⟩ := r1
        · cases e
        cases e1; cases e2; cases e3
        have t1 := q1 k (.int .i64 (y.2.tag : Int)) (by rw [HTG.out, List.getElem?_map, hk2]; rfl)
        have t2 := q2 k (.int .i64 y.2.kind) (by rw [HKD.out, List.getElem?_map, hk2]; rfl)
        have t3 := q3 k y.1 (by rw [List.getElem?_map, hk]; rfl)
        rw [Addr.add_lit, Nat.zero_add] at t1 t2 t3
        exact ⟨t1, t2, t3⟩
      have HCELL := Lib.hid hcells
      have hyv : ∀ y ∈ Y, Stb w0 CC (fun w => Reads w 1 y.1 y.2.vals.length (y.2.vals.map u64v)) := fun y hy w h => valsP_reads Y BB ((h.perm hCC).right) y hy
      have HYV := Lib.hid hyv
      have HS2 := Lib.hid hst
      clear hst hCC hY hYl hAAW hcells hyv HS
      go_wp2_with fail
      go_loopw [14, 15] (fun v vi wr => ∃ (k : Nat) (L : List FV), k ≤ 9 ∧ vi = .int .i64 k ∧ L.length = k ∧ fl L = sortF ((base9 p).take k) ∧ FldsS w0 wr CC v L) (fun v vi _ => 9 - (intOf vi).toNat)
      case atStart => exact ⟨0, [], by omega, rfl, rfl, rfl, FldsS.start HS2.out⟩
      case round =>
        clear HS2
        obtain ⟨k, L, hk, rfl, hLl, hfl, hfs⟩ := hrel
        by_cases hkn : k < 9
        · have hkI : (k : Int) < 9 := by omega
          have hkY : k < Y.length := by rw [HYL.out]; exact hkn
          have hx := List.getElem?_eq_getElem hkY
          have hcl := HCELL.out k _ hx
          have hyr := HYV.out _ (List.getElem_mem hkY)
          have htk : (base9 p).take (k + 1) = (base9 p).take k ++ [Y[k].2] := by
            rw [← HY.out, fl, List.take_succ_eq_append_getElem (by simpa using hkY), List.getElem_map]
          have hmem : Y[k].2 ∈ base9 p := by rw [← HY.out]; exact List.mem_map_of_mem (List.getElem_mem hkY)
          have htg : Y[k].2.tag < 65536 := by
            have h1 : ((base9 p).map Fld.tag).all (fun t => decide (t < 65536)) = true := by show ([256, 257, 258, 259, 262, 266, 277, 284, 317] : List Nat).all _ = true; decide
            exact of_decide_eq_true (List.all_eq_true.1 h1 _ (List.mem_map_of_mem hmem))
          have hnd : (((base9 p).take k ++ [Y[k].2]).map Fld.tag).Nodup := by
            rw [← htk, List.map_take]
            exact List.Sublist.nodup (List.take_sublist _ _) (show ([256, 257, 258, 259, 262, 266, 277, 284, 317] : List Nat).Nodup by decide)
          obtain ⟨av, cv, rfl⟩ := hfs.sub
          generalize Y[k] = y at *
          obtain ⟨ay, cy, ey⟩ := (hyr _ hfs.base).sub
          have HCT := Lib.hid (fun w h => (hcl w h).1)
          have HCK := Lib.hid (fun w h => (hcl w h).2.1)
          have HCV := Lib.hid (fun w h => (hcl w h).2.2)
          have HTK := Lib.hid htk; have HND := Lib.hid hnd; have HFL := Lib.hid hfl; have HFS := Lib.hid hfs; have HYR := Lib.hid hyr
          have hwr : IntKind.u16.wrap (y.2.tag : Int) = y.2.tag := by simp [IntKind.wrap, IntKind.bits, IntKind.signed]; omega
          have hL2 : L.length ≤ 2000 := by omega
          have HLL := Lib.hid hLl
          clear hx hcl hyr htk hmem htg hnd hfl hfs hLl hkY
          obtain ⟨yv, y⟩ := y
          simp only at ey
          subst ey
          simp only at hwr
          generalize hnn : L.length = nl at *
          have HNN := Lib.hid hnn
          clear hnn
          go_upto_region 16 with (fail)
          refine wp_region_noPanic ?_
          refine region_till (S := fun W : World => St w0 W CC) (k := 19) (by kernel_rfl) ?_
          have hS := HFS.out.base.drew
          refine till_take0 (i := 0) (oi := ?_) (v := ?_) ?_ (by kernel_rfl) (by kernel_rfl) (by kernel_rfl) (by decide) (fun _ _ _ h => h.elim) (by assumption) (.inl ⟨?_, fun w => ?_⟩) ?_
          rotate_left 2
          · (simp only [List.getElem?_toArray, List.getElem?_cons_succ, List.getElem?_cons_zero]; rfl)
          · rfl
          · (go_simp; try with_reducible rfl)
          simp only [Act.put, List.setIfInBounds_toArray, List.set_cons_zero, List.set_cons_succ]
          refine till_take0 (i := 1) (oi := ?_) (v := ?_) ?_ (by kernel_rfl) (by kernel_rfl) (by kernel_rfl) (by decide) (fun _ _ _ h => h.elim) (by assumption) (.inl ⟨?_, fun w => ?_⟩) ?_
          rotate_left 2
          · (simp only [List.getElem?_toArray, List.getElem?_cons_succ, List.getElem?_cons_zero]; rfl)
          · rfl
          · (go_simp; try with_reducible rfl)
          simp only [Act.put, List.setIfInBounds_toArray, List.set_cons_zero, List.set_cons_succ]
          refine till_take0 (i := 2) (oi := ?_) (v := ?_) ?_ (by kernel_rfl) (by kernel_rfl) (by kernel_rfl) (by decide) (fun _ _ _ h => h.elim) (by assumption) (.inl ⟨?_, fun w => ?_⟩) ?_
          rotate_left 2
          · (simp only [List.getElem?_toArray, List.getElem?_cons_succ, List.getElem?_cons_zero]; rfl)
          · rfl
          · (go_simp; try with_reducible rfl)
          simp only [Act.put, List.setIfInBounds_toArray, List.set_cons_zero, List.set_cons_succ]
          refine till_take0 (i := 3) (oi := ?_) (v := ?_) ?_ (by kernel_rfl) (by kernel_rfl) (by kernel_rfl) (by decide) (fun _ _ _ h => h.elim) (by assumption) (.inl ⟨?_, fun w => ?_⟩) ?_
          rotate_left 2
          · (simp only [List.getElem?_toArray, List.getElem?_cons_succ, List.getElem?_cons_zero]; rfl)
          · rfl
          · (go_simp; try with_reducible rfl)
          simp only [Act.put, List.setIfInBounds_toArray, List.set_cons_zero, List.set_cons_succ]
          refine till_take (i := 4) (oi := ?_) (v := ?_) ?_ (by kernel_rfl) (by kernel_rfl) (by kernel_rfl) (by kernel_rfl) (by kernel_rfl) (fun _ _ _ h => h.elim) (by assumption) (.inl ⟨?_, fun w hSw => ?_⟩) ?_
          rotate_left 2
          · (simp only [List.getElem?_toArray, List.getElem?_cons_succ, List.getElem?_cons_zero]; rfl)
          · rfl
          · (have hc : w.cell? ⟨g1, k, none⟩ = some (.int .i64 (y.tag : Int)) := HCT.out w hSw; clear hSw; go_simp; try with_reducible rfl)
          simp only [Act.put, List.setIfInBounds_toArray, List.set_cons_zero, List.set_cons_succ]
          refine till_take0 (i := 5) (oi := ?_) (v := ?_) ?_ (by kernel_rfl) (by kernel_rfl) (by kernel_rfl) (by decide) (fun _ _ _ h => h.elim) (by assumption) (.inl ⟨?_, fun w => ?_⟩) ?_
          rotate_left 2
          · (simp only [List.getElem?_toArray, List.getElem?_cons_succ, List.getElem?_cons_zero]; rfl)
          · rfl
          · (go_simp; try with_reducible rfl)
          simp only [Act.put, List.setIfInBounds_toArray, List.set_cons_zero, List.set_cons_succ]
          refine till_take0 (i := 6) (oi := ?_) (v := ?_) ?_ (by kernel_rfl) (by kernel_rfl) (by kernel_rfl) (by decide) (fun _ _ _ h => h.elim) (by assumption) (.inl ⟨?_, fun w => ?_⟩) ?_
          rotate_left 2
          · (simp only [List.getElem?_toArray, List.getElem?_cons_succ, List.getElem?_cons_zero]; rfl)
          · rfl
          · (go_simp; try with_reducible rfl)
          simp only [Act.put, List.setIfInBounds_toArray, List.set_cons_zero, List.set_cons_succ]
          refine till_take0 (i := 7) (oi := ?_) (v := ?_) ?_ (by kernel_rfl) (by kernel_rfl) (by kernel_rfl) (by decide) (fun _ _ _ h => h.elim) (by assumption) (.inl ⟨?_, fun w => ?_⟩) ?_
          rotate_left 2
          · (simp only [List.getElem?_toArray, List.getElem?_cons_succ, List.getElem?_cons_zero]; rfl)
          · rfl
          · (go_simp; try with_reducible rfl)
          simp only [Act.put, List.setIfInBounds_toArray, List.set_cons_zero, List.set_cons_succ]
          refine till_take0 (i := 8) (oi := ?_) (v := ?_) ?_ (by kernel_rfl) (by kernel_rfl) (by kernel_rfl) (by decide) (fun _ _ _ h => h.elim) (by assumption) (.inl ⟨?_, fun w => ?_⟩) ?_
          rotate_left 2
          · (simp only [List.getElem?_toArray, List.getElem?_cons_succ, List.getElem?_cons_zero]; rfl)
          · rfl
          · (go_simp; try with_reducible rfl)
          simp only [Act.put, List.setIfInBounds_toArray, List.set_cons_zero, List.set_cons_succ]
          refine till_take (i := 9) (oi := ?_) (v := ?_) ?_ (by kernel_rfl) (by kernel_rfl) (by kernel_rfl) (by kernel_rfl) (by kernel_rfl) (fun _ _ _ h => h.elim) (by assumption) (.inl ⟨?_, fun w hSw => ?_⟩) ?_
          rotate_left 2
          · (simp only [List.getElem?_toArray, List.getElem?_cons_succ, List.getElem?_cons_zero]; rfl)
          · rfl
          · (have hc : w.cell? ⟨g2, k, none⟩ = some (.int .i64 y.kind) := HCK.out w hSw; clear hSw; go_simp; try with_reducible rfl)
          simp only [Act.put, List.setIfInBounds_toArray, List.set_cons_zero, List.set_cons_succ]
          refine till_take0 (i := 10) (oi := ?_) (v := ?_) ?_ (by kernel_rfl) (by kernel_rfl) (by kernel_rfl) (by decide) (fun _ _ _ h => h.elim) (by assumption) (.inl ⟨?_, fun w => ?_⟩) ?_
          rotate_left 2
          · (simp only [List.getElem?_toArray, List.getElem?_cons_succ, List.getElem?_cons_zero]; rfl)
          · rfl
          · (go_simp; try with_reducible rfl)
          simp only [Act.put, List.setIfInBounds_toArray, List.set_cons_zero, List.set_cons_succ]
          refine till_take0 (i := 11) (oi := ?_) (v := ?_) ?_ (by kernel_rfl) (by kernel_rfl) (by kernel_rfl) (by decide) (fun _ _ _ h => h.elim) (by assumption) (.inl ⟨?_, fun w => ?_⟩) ?_
          rotate_left 2
          · (simp only [List.getElem?_toArray, List.getElem?_cons_succ, List.getElem?_cons_zero]; rfl)
          · rfl
          · (go_simp; try with_reducible rfl)
          simp only [Act.put, List.setIfInBounds_toArray, List.set_cons_zero, List.set_cons_succ]
          refine till_take0 (i := 12) (oi := ?_) (v := ?_) ?_ (by kernel_rfl) (by kernel_rfl) (by kernel_rfl) (by decide) (fun _ _ _ h => h.elim) (by assumption) (.inl ⟨?_, fun w => ?_⟩) ?_
          rotate_left 2
          · (simp only [List.getElem?_toArray, List.getElem?_cons_succ, List.getElem?_cons_zero]; rfl)
          · rfl
          · (go_simp; try with_reducible rfl)
          simp only [Act.put, List.setIfInBounds_toArray, List.set_cons_zero, List.set_cons_succ]
          refine till_take (i := 13) (oi := ?_) (v := ?_) ?_ (by kernel_rfl) (by kernel_rfl) (by kernel_rfl) (by kernel_rfl) (by kernel_rfl) (fun _ _ _ h => h.elim) (by assumption) (.inl ⟨?_, fun w hSw => ?_⟩) ?_
          rotate_left 2
          · (simp only [List.getElem?_toArray, List.getElem?_cons_succ, List.getElem?_cons_zero]; rfl)
          · rfl
          · (have hc : w.cell? ⟨g3, k, none⟩ = some (.slice ay y.vals.length cy) := HCV.out w hSw; clear hSw; go_simp; try with_reducible rfl)
          simp only [Act.put, List.setIfInBounds_toArray, List.set_cons_zero, List.set_cons_succ]
          refine till_take0 (i := 14) (oi := ?_) (v := ?_) ?_ (by kernel_rfl) (by kernel_rfl) (by kernel_rfl) (by decide) (fun _ _ _ h => h.elim) (by assumption) (.inl ⟨?_, fun w => ?_⟩) ?_
          rotate_left 2
          · (simp only [List.getElem?_toArray, List.getElem?_cons_succ, List.getElem?_cons_zero]; rfl)
          · rfl
          · (go_simp; try with_reducible rfl)
          simp only [Act.put, List.setIfInBounds_toArray, List.set_cons_zero, List.set_cons_succ]
          clear hS
          have HFD : Hid (FldsS w0 wr.drew CC (.slice av L.length cv) L) := Lib.hid (by
            obtain ⟨K, st, vals⟩ := HFS.out
            rw [HNN.out]
            exact ⟨K, st.drew, vals⟩)
          generalize wr.drew = W5 at *
          have hpn := (putS_new (l := (base9 p).take k) (o := y) (t := (y.tag : Int)) (k := y.kind) HFD.out (by rw [HNN.out]; exact hL2) HYR.out HFL.out HND.out rfl rfl)
          rw [HNN.out] at hpn
          have HPN := Lib.hid hpn
          clear hpn
          refine till_one (i := 15) (by kernel_rfl) ?_
          refine wpOp_step (by rfl) fun K' hK => ?_
          go_simp
          refine HPN.out.mono ?_
          rintro e W7 ⟨v7, L7, rfl, hfl7, hfs7⟩
          refine hK _ _ ⟨fun e => hfs7.base, ?_⟩
          clear hK K'
          have hS := hfs7.base
          refine till_take0 (i := 16) (oi := ?_) (v := ?_) ?_ (by kernel_rfl) (by kernel_rfl) (by kernel_rfl) (by decide) (fun _ _ _ h => h.elim) (by assumption) (.inl ⟨?_, fun w => ?_⟩) ?_
          rotate_left 2
          · (simp only [List.getElem?_toArray, List.getElem?_cons_succ, List.getElem?_cons_zero]; rfl)
          · rfl
          · (go_simp; try with_reducible rfl)
          simp only [Act.put, List.setIfInBounds_toArray, List.set_cons_zero, List.set_cons_succ]
          refine till_take0 (i := 17) (oi := ?_) (v := ?_) ?_ (by kernel_rfl) (by kernel_rfl) (by kernel_rfl) (by decide) (fun _ _ _ h => h.elim) (by assumption) (.inl ⟨?_, fun w => ?_⟩) ?_
          rotate_left 2
          · (simp only [List.getElem?_toArray, List.getElem?_cons_succ, List.getElem?_cons_zero]; rfl)
          · rfl
          · (go_simp; try with_reducible rfl)
          simp only [Act.put, List.setIfInBounds_toArray, List.set_cons_zero, List.set_cons_succ]
          refine till_take0 (i := 18) (oi := ?_) (v := ?_) ?_ (by kernel_rfl) (by kernel_rfl) (by kernel_rfl) (by decide) (fun _ _ _ h => h.elim) (by assumption) (.inl ⟨?_, fun w => ?_⟩) ?_
          rotate_left 2
          · (simp only [List.getElem?_toArray, List.getElem?_cons_succ, List.getElem?_cons_zero]; rfl)
          · rfl
          · (go_simp; try with_reducible rfl)
          simp only [Act.put, List.setIfInBounds_toArray, List.set_cons_zero, List.set_cons_succ]
          clear hS
          have HF7 := Lib.hid hfs7; have HFL7 := Lib.hid hfl7
          clear hfs7 hfl7
          refine till_one (i := 19) (by kernel_rfl) ?_
          refine wpOp_step (by rfl) fun K' hK => ?_
          go_simp
          refine hK _ _ ⟨fun e => (by first | exact absurd e (by decide) | (simp at e)), ?_⟩
          clear hK K'
          refine ⟨(by kernel_rfl), NoPanic.normal ?_⟩
          go_wp2_with fail
          refine ⟨⟨k + 1, L7, by omega, by go_num, ?_, by rw [HTK.out]; exact HFL7.out, HF7.out⟩, by simp [intOf]; omega⟩
          have h1 := congrArg List.length HFL7.out
          rw [fl, List.length_map, (sortF_perm _).length_eq, ← HTK.out, List.length_take] at h1
          have h2 : (base9 p).length = 9 := rfl
          omega
        · obtain rfl : k = 9 := by omega
          have hfl9 : fl L = sortF (base9 p) := by rw [hfl, List.take_of_length_le (by exact Nat.le_refl 9)]
          have HFL9 := Lib.hid hfl9
          have HFS9 := Lib.hid hfs
          clear hfl9 hfs hfl hkn hk
          have hlen9 := fl_len HFL9.out
          have h9l : (base9 p).length = 9 := rfl
          have c9 : wr.cell? ⟨b0, 9, none⟩ = some (.int .i64 p.scheme) := HC.out _ (HAAW.out _ HFS9.out.base) 9 _ rfl
          have hL2 : L.length ≤ 2000 := by omega
          clear hlen9 h9l hLl
          go_upto_if 101 with (fail)
          generalize hsb : (p.scheme == 3) = sb
          have HSB := Lib.hid hsb
          clear hsb
          go_cut [14, 16] from 102 to 114 (fun x y wx => ∃ L : List FV, fl L = sortF (base9 p ++ faxL p al) ∧ FldsS w0 wx CC x L)
          case first =>
            cases sb
            rotate_left
            · have hfx : faxL p al = [⟨292, 4, [t4N p al]⟩] := if_pos (by simpa using HSB.out)
              have HFX := Lib.hid hfx
              clear hfx
              obtain ⟨tb, htb⟩ : ∃ tb, tb = p.two := ⟨_, rfl⟩
              have c12 : wr.cell? ⟨b0, 12, none⟩ = some (.bool tb) := by rw [htb]; exact HC.out _ (HAAW.out _ HFS9.out.base) 12 _ rfl
              have HTB := Lib.hid htb
              clear htb
              obtain ⟨tn, htn⟩ : ∃ tn : Nat, tn = (if p.two then 1 else 0) := ⟨_, rfl⟩
              obtain ⟨tf, htf⟩ : ∃ tf : Nat, tf = t4N p al := ⟨_, rfl⟩
              have HTN := Lib.hid htn; have HTF := Lib.hid htf
              clear htn htf
              go_upto_if 103 with (fail)
              go_cut [16] from 103 to 103 (fun x wx => x = .int .u64 (tn : Int) ∧ wx = wr)
              case first =>
                cases tb
                · have : tn = 0 := by rw [HTN.out, ← HTB.out]; rfl
                  subst this
                  go_wp2_with fail
                  go_meet
                  exact ⟨rfl, rfl⟩
                · have : tn = 1 := by rw [HTN.out, ← HTB.out]; rfl
                  subst this
                  go_wp2_with fail
                  go_meet
                  exact ⟨rfl, rfl⟩
              obtain ⟨rfl, rfl⟩ := hcut
              go_upto_if 104 with (fail)
              go_cut [16] from 104 to 106 (fun x wx => x = .int .u64 (tf : Int) ∧ wx = wc)
              case first =>
                have h01 : tn = 0 ∨ tn = 1 := by rw [HTN.out]; split <;> simp
                have htf : tf = tn + (if al then 4 else 0) := by rw [HTF.out, HTN.out]; rfl
                rcases h01 with rfl | rfl
                · cases al
                  · obtain rfl : tf = 0 := by simpa using htf
                    clear htf
                    go_wp2_with fail
                    go_meet
                    exact ⟨rfl, rfl⟩
                  · obtain rfl : tf = 4 := by simpa using htf
                    clear htf
                    go_wp2_with fail
                    go_meet
                    exact ⟨rfl, rfl⟩
                · cases al
                  · obtain rfl : tf = 1 := by simpa using htf
                    clear htf
                    go_wp2_with fail
                    go_meet
                    exact ⟨rfl, rfl⟩
                  · obtain rfl : tf = 5 := by simpa using htf
                    clear htf
                    go_wp2_with fail
                    go_meet
                    exact ⟨rfl, rfl⟩
              obtain ⟨rfl, rfl⟩ := hcut
              have HPN := Lib.hid (putS_new (l := base9 p) (o := ⟨292, 4, [tf]⟩) (t := 292) (k := 4) (HFS9.out.row (.int .u64 (tf : Int))) hL2 (fun w h => h.reads) HFL9.out (by rw [HTF.out, ← HFX.out]; exact pre_nodup (m := cutL p lg) rfl) rfl rfl)
              go_wp2_with (go_at_call 43; apply stop)
              refine on (HPN.out.mono ?_)
              rintro e W7 ⟨v7, L7, rfl, hfl7, hfs7⟩
              have HF7 := Lib.hid hfs7.absorb; have HFL7 := Lib.hid hfl7
              clear hfs7 hfl7 HPN
              go_wp2_with fail
              go_meet
              exact ⟨L7, by rw [HFX.out, ← HTF.out]; exact HFL7.out, HF7.out⟩
            · have hfx : faxL p al = [] := if_neg (by simpa using HSB.out)
              have HFX := Lib.hid hfx
              clear hfx
              go_wp2_with fail
              go_meet
              exact ⟨L, by rw [HFX.out, List.append_nil]; exact HFL9.out, HFS9.out⟩
          clear HFS9 HFL9 hL2 c9 HSB
          obtain ⟨L10, hfl10, hfs10⟩ := hcut
          have HFS10 := Lib.hid hfs10; have HFL10 := Lib.hid hfl10
          have hL10 : L10.length ≤ 10 := by
            have h1 := fl_len hfl10
            have h2 : (base9 p ++ faxL p al).length ≤ 10 := by
              unfold base9 faxL
              split <;> simp
            omega
          obtain ⟨tl, htl⟩ : ∃ tl, tl = p.lay.tiled := ⟨_, rfl⟩
          have hc2 : ∀ W, St w0 W CC → W.cell? ⟨b0, 2, none⟩ = some (.bool tl) := fun W h => by rw [htl]; exact HC.out _ (HAAW.out _ h) 2 _ rfl
          have c2 := hc2 _ hfs10.base
          have HTL := Lib.hid htl
          clear hfs10 hfl10 htl hc2
          have hcut0 : ∃ C0 : List Fld, C0 = (if tl then [⟨322, 4, [u64N p.lay.w]⟩, ⟨323, 4, [u64N p.lay.h]⟩] else [⟨278, 4, [u64N p.lay.h]⟩]) := ⟨_, rfl⟩
          obtain ⟨C0, hC0⟩ := hcut0
          have hcutL : cutL p lg = C0 ++ [⟨if tl then 324 else 273, wideK lg, p.offs⟩] ++ [⟨if tl then 325 else 279, wideK lg, p.cnts⟩] := by
            rw [hC0, cutL, ← HTL.out]; cases tl <;> rfl
          have HC0 := Lib.hid hC0; have HCL := Lib.hid hcutL
          clear hC0 hcutL
          obtain ⟨ta, hta⟩ : ∃ ta : Nat, ta = (if tl then 324 else 273) := ⟨_, rfl⟩
          obtain ⟨tb, htb⟩ : ∃ tb : Nat, tb = (if tl then 325 else 279) := ⟨_, rfl⟩
          have HTA := Lib.hid hta; have HTB := Lib.hid htb
          clear hta htb
          have q5 := wrap_u64N p.lay.w
          have q6 := wrap_u64N p.lay.h
          go_upto_if 117 with (fail)
          go_cut [14, 17, 18] from 118 to 150 (fun x a b wx => a = .int .u16 (ta : Int) ∧ b = .int .u16 (tb : Int) ∧ ∃ L : List FV, fl L = sortF (base9 p ++ faxL p al ++ C0) ∧ FldsS w0 wx CC x L)
          case first =>
            have c3 : wc.cell? ⟨b0, 3, none⟩ = some (.int .i64 p.lay.w) := HC.out _ (HAAW.out _ HFS10.out.base) 3 _ rfl
            have c4 : wc.cell? ⟨b0, 4, none⟩ = some (.int .i64 p.lay.h) := HC.out _ (HAAW.out _ HFS10.out.base) 4 _ rfl
            cases tl
            · obtain rfl : ta = 273 := HTA.out
              obtain rfl : tb = 279 := HTB.out
              obtain rfl : C0 = [⟨278, 4, [u64N p.lay.h]⟩] := HC0.out
              have HPN := Lib.hid (putS_new (l := base9 p ++ faxL p al) (o := ⟨278, 4, [u64N p.lay.h]⟩) (t := 278) (k := 4) (HFS10.out.row (.int .u64 (u64N p.lay.h : Int))) (by omega) (fun w h => h.reads) HFL10.out (by exact pre_nodup (p := p) (al := al) (lg := lg) (m := [⟨273, wideK lg, p.offs⟩, ⟨279, wideK lg, p.cnts⟩]) (by rw [baseL, HCL.out]; simp)) rfl rfl)
              go_wp2_with (go_at_call 43; apply stop)
              refine on (HPN.out.mono ?_)
              rintro e W7 ⟨v7, L7, rfl, hfl7, hfs7⟩
              have HF7 := Lib.hid hfs7.absorb; have HFL7 := Lib.hid hfl7
              clear hfs7 hfl7 HPN c3 c4
              go_wp2_with fail
              go_meet
              exact ⟨rfl, rfl, L7, HFL7.out, HF7.out⟩
            · obtain rfl : ta = 324 := HTA.out
              obtain rfl : tb = 325 := HTB.out
              obtain rfl : C0 = [⟨322, 4, [u64N p.lay.w]⟩, ⟨323, 4, [u64N p.lay.h]⟩] := HC0.out
              have HPN := Lib.hid (putS_new (l := base9 p ++ faxL p al) (o := ⟨322, 4, [u64N p.lay.w]⟩) (t := 322) (k := 4) (HFS10.out.row (.int .u64 (u64N p.lay.w : Int))) (by omega) (fun w h => h.reads) HFL10.out (by exact pre_nodup (p := p) (al := al) (lg := lg) (m := [⟨323, 4, [u64N p.lay.h]⟩, ⟨324, wideK lg, p.offs⟩, ⟨325, wideK lg, p.cnts⟩]) (by rw [baseL, HCL.out]; simp)) rfl rfl)
              go_wp2_with (go_at_call 43; apply stop)
              refine on (HPN.out.mono ?_)
              rintro e W7 ⟨v7, L7, rfl, hfl7, hfs7⟩
              have HF7 := Lib.hid hfs7.absorb; have HFL7 := Lib.hid hfl7
              have hl7 := fl_len hfl7
              have hl7b : L7.length ≤ 2000 := by
                rw [hl7, List.length_append, ← fl_len HFL10.out]; simp; omega
              have c4 : W7.cell? ⟨b0, 4, none⟩ = some (.int .i64 p.lay.h) := HC.out _ (HAAW.out _ HF7.out.base) 4 _ rfl
              have HPN2 := Lib.hid (putS_new (l := base9 p ++ faxL p al ++ [⟨322, 4, [u64N p.lay.w]⟩]) (o := ⟨323, 4, [u64N p.lay.h]⟩) (t := 323) (k := 4) (HF7.out.row (.int .u64 (u64N p.lay.h : Int))) hl7b (fun w h => h.reads) HFL7.out (by exact pre_nodup (p := p) (al := al) (lg := lg) (m := [⟨324, wideK lg, p.offs⟩, ⟨325, wideK lg, p.cnts⟩]) (by rw [baseL, HCL.out]; simp)) rfl rfl)
              clear hfs7 hfl7 HPN c3 hl7 hl7b
              go_wp2_with (go_at_call 43; apply stop)
              refine on (HPN2.out.mono ?_)
              rintro e W8 ⟨v8, L8, rfl, hfl8, hfs8⟩
              have HF8 := Lib.hid hfs8.absorb; have HFL8 := Lib.hid hfl8
              clear hfs8 hfl8 HPN2 c4
              go_wp2_with fail
              go_meet
              exact ⟨rfl, rfl, L8, by rw [HFL8.out, List.append_assoc _ [_] [_]]; rfl, HF8.out⟩
          clear HFS10 HFL10 hL10 c2 q5 q6
          obtain ⟨rfl, rfl, L11, hfl11, hfs11⟩ := hcut
          have hcl2 : cutL p lg = C0 ++ [⟨ta, wideK lg, p.offs⟩] ++ [⟨tb, wideK lg, p.cnts⟩] := by rw [HCL.out, HTA.out, HTB.out]
          have hLl : L11.length ≤ 13 := by
            have h1 := fl_len hfl11
            have h2 : (base9 p ++ faxL p al ++ C0).length ≤ 13 := by
              rw [HC0.out]
              unfold base9 faxL
              split <;> split <;> simp
            omega
          have hrd : Stb w0 CC (fun w => Reads w 1 (.slice ao no co) p.offs.length (p.offs.map u64v) ∧ Reads w 1 (.slice ac nc cc) p.cnts.length (p.cnts.map u64v)) := fun w h => by
            have := HA.out w (((HAAW.out w h).perm HPGB.out).right)
            exact ⟨this.offs, this.cnts⟩
          have c13 : wc.cell? ⟨b0, 13, none⟩ = some (.slice ao no co) := HC.out _ (HAAW.out _ hfs11.base) 13 _ rfl
          have HPN := Lib.hid (putS_new (l := base9 p ++ faxL p al ++ C0) (o := ⟨ta, wideK lg, p.offs⟩) (t := (ta : Int)) (k := wideK lg) hfs11 (by omega) (fun w h => (hrd w h).1) hfl11 (by exact pre_nodup (p := p) (al := al) (lg := lg) (m := [⟨tb, wideK lg, p.cnts⟩]) (by rw [baseL, hcl2]; simp)) rfl rfl)
          have hL12 : L11.length + 1 ≤ 2000 := by omega
          have HL12 := Lib.hid (And.intro hL12 (fl_len hfl11))
          have HRD := Lib.hid hrd; have HCL2 := Lib.hid hcl2
          clear hfl11 hfs11 hrd hcl2 hLl hL12
          go_wp2_with (go_at_call 43; apply stop)
          refine on (HPN.out.mono ?_)
          rintro e W7 ⟨v7, L7, rfl, hfl7, hfs7⟩
          have hl7 := fl_len hfl7
          have hl7b : L7.length ≤ 2000 := by
            obtain ⟨a1, a2⟩ := HL12.out
            rw [hl7, List.length_append, ← a2]
            exact a1
          have c14 : W7.cell? ⟨b0, 14, none⟩ = some (.slice ac nc cc) := HC.out _ (HAAW.out _ hfs7.base) 14 _ rfl
          have HPN2 := Lib.hid (putS_new (l := base9 p ++ faxL p al ++ C0 ++ [⟨ta, wideK lg, p.offs⟩]) (o := ⟨tb, wideK lg, p.cnts⟩) (t := (tb : Int)) (k := wideK lg) hfs7 hl7b (fun w h => (HRD.out w h).2) hfl7 (by exact pre_nodup (p := p) (al := al) (lg := lg) (m := []) (by rw [baseL, HCL2.out]; simp)) rfl rfl)
          clear hfl7 hfs7 hl7 hl7b HPN c13
          go_wp2_with (go_at_call 43; apply stop)
          refine on (HPN2.out.mono ?_)
          rintro e W8 ⟨v8, L8, rfl, hfl8, hfs8⟩
          have hflb : fl L8 = sortF (baseL p al lg) := by rw [hfl8, baseL, HCL2.out]; simp
          have hfsA : FldsS w0 W8 AA v8 L8 := by
            have e : CC = (own 28 1 (.slice (some ⟨g3, 0, none⟩) 9 k3) 9 (Y.map Prod.fst) * (valsP Y * (own 3 1 (.slice (some ⟨g2, 0, none⟩) 9 9) 9 KD * own 3 1 (.slice (some ⟨g1, 0, none⟩) 9 9) 9 TG))) * AA := by
              rw [HCC.out, HBB.out]; simp only [star_assoc]
            rw [e] at hfs8
            exact hfs8.absorb
          have HFS := Lib.hid hfsA; have HFLB := Lib.hid hflb
          clear hfl8 hfs8 hflb hfsA HPN2 c14 HL12 HRD HCL2 HCL HC0 HTA HTB HCC HCELL HYV HY HYL HTG HKD HB
          obtain ⟨eR1, eR2, eR3⟩ := HE.out
          have HR3 := Lib.hid eR3
          have hRl : R.length ≤ 1000 := by
            have h1 := (HN.out).2.2
            have : (fl R).length = p.rest.length := by rw [(HA.out _ ((HFS.out.base.perm HPGB.out).right)).flds]
            rw [fl, List.length_map] at this
            omega
          have hnr : nr ≤ 1000 := by omega
          clear eR1 eR2 eR3 hRl
          go_wp2_with fail
          go_loopw [14, 19] (fun v vi wr => ∃ (k : Nat) (L : List FV), k ≤ nr ∧ vi = .int .i64 k ∧ fl L = sortF (baseL p al lg ++ p.rest.take k) ∧ ((baseL p al lg ++ p.rest.take k).map Fld.tag).Nodup ∧ twiceB (baseL p al lg) p.rest = twiceB (baseL p al lg ++ p.rest.take k) (p.rest.drop k) ∧ FldsS w0 wr AA v L) (fun v vi _ => nr - (intOf vi).toNat)
          case atStart => exact ⟨0, L8, by omega, rfl, by rw [HFLB.out, List.take_zero, List.append_nil], by rw [List.take_zero, List.append_nil]; exact baseL_nodup p al lg, by rw [List.take_zero, List.append_nil, List.drop_zero], HFS.out⟩
          case round =>
            clear HFS HFLB
            obtain ⟨k, L, hk, rfl, hfl, hnd, htw, hfs⟩ := hrel
            have hRr : fl R = p.rest := (HA.out _ ((hfs.base.perm HPGB.out).right)).flds
            have c15 : wr.cell? ⟨b0, 15, none⟩ = some (.slice ar nr cr) := HC.out _ hfs.base 15 _ rfl
            by_cases hkn : k < nr
            · have hkR : k < R.length := by have := HR3.out; omega
              have hx := List.getElem?_eq_getElem hkR
              have hrw : ∀ W, St w0 W AA → Reads W 3 (.slice ar nr cr) nr (R.flatMap fldC) := fun W h => by
                have := ((HA.out _ ((h.perm HPGB.out).right)).rest).row
                rw [← HR3.out] at this
                exact this
              have hFR := (HA.out _ ((hfs.base.perm HPGB.out).right)).rest
              obtain ⟨b, off, rfl, c0, c1, c2⟩ := reads_fld (hrw _ hfs.base) hx
              obtain ⟨av, cv, hos⟩ := (hFR.vals _ (List.getElem_mem hkR)).sub
              have hvr : Stb w0 AA (fun w => Reads w 1 R[k].1 R[k].2.vals.length (R[k].2.vals.map u64v)) := fun w h => (HA.out w ((h.perm HPGB.out).right)).rest.vals _ (List.getElem_mem hkR)
              have hrk : p.rest.drop k = R[k].2 :: p.rest.drop (k + 1) := by
                rw [← hRr]
                have := List.drop_eq_getElem_cons (l := fl R) (i := k) (by simpa using hkR)
                rw [this, List.getElem_map]
              have htk : p.rest.take (k + 1) = p.rest.take k ++ [R[k].2] := by
                rw [← hRr, List.take_succ_eq_append_getElem (by simpa using hkR), List.getElem_map]
              have hmem : R[k].2 ∈ p.rest := by rw [← hRr]; exact List.mem_map_of_mem (List.getElem_mem hkR)
              have hkI : (k : Int) < nr := by omega
              have hLl : L.length ≤ 2000 := by
                have h1 := fl_len hfl
                rw [List.length_append, List.length_take] at h1
                have h2 := (baseL_len p al lg).1
                omega
              have htc : ∀ W, St w0 W AA → W.cell? ⟨b, off + k * 3, none⟩ = some (.int .u16 (R[k].2.tag : Int)) := fun W h => by
                obtain ⟨b', off', e, t0, _, _⟩ := reads_fld (hrw W h) hx
                cases e; exact t0
              have htg : R[k].2.tag < 65536 := HTT.out _ hmem
              generalize R[k] = o at *
              obtain ⟨ov, o⟩ := o
              simp only at hos
              subst hos
              simp only at c0 c1 c2 hvr hrk htk htg htc
              have hdv : dupV o.tag L = (baseL p al lg ++ p.rest.take k).any (fun f => f.tag == o.tag) := by
                rw [dup_any (by rw [hfl]; exact sortF_rising hnd), hfl]
                exact (sortF_perm _).any_eq
              have hpu := putS_any hfs hLl (a := av) (n := o.vals.length) (c := cv) (o := o) hvr
              obtain ⟨db, hdb⟩ : ∃ db, db = dupV o.tag L := ⟨_, rfl⟩
              obtain ⟨LX, hLX⟩ : ∃ LX, LX = (if dupV o.tag L then L else insV (.slice av o.vals.length cv, o) L) := ⟨_, rfl⟩
              rw [← hLX, ← hdb] at hpu
              have HPU := Lib.hid hpu; have HDB := Lib.hid hdb; have HLX := Lib.hid hLX; have HDV := Lib.hid hdv
              have HTC := Lib.hid htc; have HRK := Lib.hid hrk; have HTK := Lib.hid htk; have HTW := Lib.hid htw; have HFL := Lib.hid hfl; have HND := Lib.hid hnd; have HFS := Lib.hid hfs
              obtain ⟨aL, cL, rfl⟩ := hfs.sub
              have hw16 : (o.tag : Int) < 65536 := by omega
              clear hFR hx hrw hvr hrk htk hmem hkR htw hfl hRr hnd hfs hpu hdb hLX hdv htc hw16
              generalize hnn : L.length = nl at *
              have HNN := Lib.hid hnn
              clear hnn
              go_wp2_with (go_at_call 43; apply stop)
              refine on (HPU.out.mono ?_)
              rintro e wr2 ⟨v2, rfl, hf2⟩
              have HFS2 := Lib.hid hf2
              have c15 : wr2.cell? ⟨b0, 15, none⟩ = some (.slice (some ⟨b, off, none⟩) nr cr) := HC.out _ hf2.base 15 _ rfl
              have c0 := HTC.out _ hf2.base
              obtain ⟨K2, st2, vl2⟩ := hf2
              have HK := Lib.hid (rknown_any st2 o.tag rfl)
              have HVL2 := Lib.hid vl2
              obtain ⟨kb, hkb⟩ : ∃ kb, kb = knownL.contains o.tag := ⟨_, rfl⟩
              rw [← hkb] at HK
              have Hkb := Lib.hid hkb
              clear hkb st2 vl2 HPU
              go_wp2_with (go_at_call 16; apply stop)
              refine on (HK.out.mono ?_)
              rintro r wr3 ⟨rfl, h3⟩
              have HFS3 : Hid (FldsS w0 wr3 AA v2 LX) := Lib.hid ⟨K2, h3, HVL2.out⟩
              clear HK c15 c0 h3 HFS2 HVL2
              cases kb
              rotate_left
              · have htrue : twiceB (baseL p al lg) p.rest = true := by rw [HTW.out, HRK.out, twiceB, if_pos (by rw [← Hkb.out]; rfl)]
                have HER := Lib.hid (show er = 14 by rw [Her.out, fieldsE, if_pos htrue])
                have HLN := Lib.hid (show LV = [] by rw [HLVV.out, fieldsV, if_neg (by rw [← Her.out, HER.out]; decide)])
                clear htrue
                go_wp2_with fail
                go_ret2
                exact ⟨.slice none 0 0, [], PGB, by rw [HER.out]; rfl, HFS3.out.base.perm HPGB.out, fun w h => ⟨⟨rfl, .inl ⟨rfl, rfl⟩⟩, fun x hx => by cases hx⟩, by rw [HLN.out]; rfl⟩
              cases db
              rotate_left
              · have htrue : twiceB (baseL p al lg) p.rest = true := by rw [HTW.out, HRK.out, twiceB, if_pos (by rw [← HDV.out, ← HDB.out]; simp)]
                have HER := Lib.hid (show er = 14 by rw [Her.out, fieldsE, if_pos htrue])
                have HLN := Lib.hid (show LV = [] by rw [HLVV.out, fieldsV, if_neg (by rw [← Her.out, HER.out]; decide)])
                clear htrue
                go_wp2_with fail
                go_ret2
                exact ⟨.slice none 0 0, [], PGB, by rw [HER.out]; rfl, HFS3.out.base.perm HPGB.out, fun w h => ⟨⟨rfl, .inl ⟨rfl, rfl⟩⟩, fun x hx => by cases hx⟩, by rw [HLN.out]; rfl⟩
              go_wp2_with fail
              have hnew : fl LX = sortF (baseL p al lg ++ p.rest.take (k + 1)) := by
                rw [HLX.out, if_neg (by rw [← HDB.out]; decide), fl_insV, HFL.out, HTK.out, ← List.append_assoc, sortF_snoc]
              refine ⟨⟨k + 1, LX, by omega, by go_num, hnew, ?_, ?_, HFS3.out⟩, by simp [intOf]; omega⟩
              · rw [HTK.out, ← List.append_assoc, List.map_append, List.nodup_append]
                refine ⟨HND.out, by simp, fun a ha b hb e => ?_⟩
                obtain ⟨g, hg, rfl⟩ := List.mem_map.1 ha
                have hb2 : b = o.tag := by simpa using hb
                have hany : (baseL p al lg ++ p.rest.take k).any (fun f => f.tag == o.tag) = true := List.any_eq_true.2 ⟨g, hg, by simpa using e.trans hb2⟩
                rw [← HDV.out, ← HDB.out] at hany
                cases hany
              · rw [HTW.out, HRK.out, twiceB, if_neg (by rw [← Hkb.out, ← HDV.out, ← HDB.out]; decide), HTK.out, ← List.append_assoc]
            · obtain rfl : nr = k := by omega
              have hlen : p.rest.length = nr := by rw [← hRr, fl, List.length_map]; exact HR3.out.symm
              rw [← hlen, List.take_length] at hfl hnd htw
              rw [List.drop_length] at htw
              have htw2 : twiceB (baseL p al lg) p.rest = false := htw
              have hlv' : ∀ y ∈ L, y.2.vals.length ≤ 1000000 := fun y hy => by
                have hm : y.2 ∈ baseL p al lg ++ p.rest := (sortF_perm _).subset (by rw [← hfl]; exact List.mem_map_of_mem hy)
                rcases List.mem_append.1 hm with hm | hm
                · have hn := HN.out
                  have hmm := HM.out
                  unfold baseL base9 faxL cutL wideK at hm
                  have hbr : (bitsR p).length ≤ 1000 := by unfold bitsR; rw [List.length_replicate]; omega
                  rcases List.mem_append.1 hm with hm | hm
                  · rcases List.mem_append.1 hm with hm | hm
                    · simp only [List.mem_cons, List.not_mem_nil, or_false] at hm
                      rcases hm with e | e | e | e | e | e | e | e | e <;> rw [e] <;> simp only [List.length_cons, List.length_nil] <;> omega
                    · split at hm
                      · simp only [List.mem_cons, List.not_mem_nil, or_false] at hm
                        rw [hm]; simp
                      · cases hm
                  · split at hm <;> simp only [List.mem_cons, List.not_mem_nil, or_false] at hm
                    · rcases hm with e | e | e | e <;> rw [e] <;> simp only [List.length_cons, List.length_nil] <;> omega
                    · rcases hm with e | e | e <;> rw [e] <;> simp only [List.length_cons, List.length_nil] <;> omega
                · have := HLV.out _ hm; omega
              have hltag : ∀ y ∈ L, y.2.tag < 65536 := fun y hy => by
                have hm : y.2 ∈ baseL p al lg ++ p.rest := (sortF_perm _).subset (by rw [← hfl]; exact List.mem_map_of_mem hy)
                rcases List.mem_append.1 hm with hm | hm
                · have h1 := baseL_known p al lg _ hm
                  have h2 : knownL.all (fun t => decide (t < 65536)) = true := by decide
                  exact of_decide_eq_true (List.all_eq_true.1 h2 _ (by simpa using h1))
                · exact HTT.out _ hm
              have hLl : L.length ≤ 2000 := by
                have h1 := fl_len hfl
                rw [List.length_append] at h1
                have h2 := (baseL_len p al lg).1
                omega
              obtain ⟨K, hst, hvl⟩ := hfs
              have HDS := (rdescribe_any hst (v := u14) (L := L) (fun w h => ⟨h.reads, fun y hy => hvl y hy w h.right⟩) (by omega) hltag hlv')
              obtain ⟨LL, hLL⟩ : ∃ LL, LL = fieldsL p al lg := ⟨_, rfl⟩
              have heq : fl L = LL := by rw [hLL]; exact hfl
              rw [heq] at HDS
              obtain ⟨de, hde⟩ : ∃ de, de = descE LL := ⟨_, rfl⟩
              obtain ⟨PG, hPG⟩ : ∃ PG, PG = (if de = 0 then pageV LL else nonePg) := ⟨_, rfl⟩
              rw [← hde, ← hPG] at HDS
              have HDS := Lib.hid HDS
              have HVL' := Lib.hid hvl; have HEQ := Lib.hid heq; have HLL := Lib.hid hLL
              have Hde := Lib.hid hde; have HPG := Lib.hid hPG; have HTW := Lib.hid htw2
              obtain ⟨aL, cL, rfl⟩ := hst.reads.sub
              generalize hnn : L.length = nl at HDS ⊢
              have HNN := Lib.hid hnn
              clear hnn
              clear hde hLL hPG hst hvl hlv' hltag hfl hnd htw htw2 hRr hlen hLl heq
              go_wp2_with (go_at_call 9; apply stop)
              refine on (HDS.out.mono ?_)
              rintro e w21 ⟨vo, vc, vr, RR, K21, rfl, h21, hpg⟩
              obtain ⟨ao2, co2, rfl⟩ := (hpg _ h21).offs.sub
              obtain ⟨ac2, cc2, rfl⟩ := (hpg _ h21).cnts.sub
              obtain ⟨ar2, cr2, rfl⟩ := (hpg _ h21).rest.row.sub
              have H22 := Lib.hid (h21.alloc (.cells pg0 30))
              generalize PG.offs.length = n1 at *
              generalize PG.cnts.length = n2 at *
              generalize RR.length = n3 at *
              clear h21 hpg HDS
              go_upto_region 40 with (refine wpList_store_blk rfl 30 _ _ rfl H22.out rfl rfl (by show _ = some 16; kernel_rfl) rfl rfl ?_)
              have H23 := Lib.hid (H22.out.setRow (pgC PG (.slice ao2 n1 co2) (.slice ac2 n2 cc2) (.slice ar2 n3 cr2)))
              clear H22
              generalize w21.heap.size = g2 at *
              generalize World.setRow _ _ _ = W1 at *
              have HAAW := Lib.hid (H23.out.right.right.right.right)
              obtain ⟨ob, hob⟩ : ∃ ob, ob = decide (de = 0 ∧ PG.scheme = p.scheme ∧ PG.lay.width = p.lay.width ∧ PG.lay.height = p.lay.height ∧ PG.lay.tiled = p.lay.tiled ∧ PG.lay.w = p.lay.w ∧ PG.lay.h = p.lay.h ∧ PG.two = p.two) := ⟨_, rfl⟩
              have HOB0 := Lib.hid hob
              go_cut [228] from 206 to 228 (fun x wx => x = .bool (!ob) ∧ wx = W1)
              case first =>
                have d9 : W1.cell? ⟨g2, 9, none⟩ = some (.int .i64 PG.scheme) := H23.out.cell 9 rfl
                have d0 : W1.cell? ⟨g2, 0, none⟩ = some (.int .i64 PG.lay.width) := H23.out.cell 0 rfl
                have d1 : W1.cell? ⟨g2, 1, none⟩ = some (.int .i64 PG.lay.height) := H23.out.cell 1 rfl
                have d2 : W1.cell? ⟨g2, 2, none⟩ = some (.bool PG.lay.tiled) := H23.out.cell 2 rfl
                have d3 : W1.cell? ⟨g2, 3, none⟩ = some (.int .i64 PG.lay.w) := H23.out.cell 3 rfl
                have d4 : W1.cell? ⟨g2, 4, none⟩ = some (.int .i64 PG.lay.h) := H23.out.cell 4 rfl
                have d12 : W1.cell? ⟨g2, 12, none⟩ = some (.bool PG.two) := H23.out.cell 12 rfl
                have c9 : W1.cell? ⟨b0, 9, none⟩ = some (.int .i64 p.scheme) := HC.out _ HAAW.out 9 _ rfl
                have c0 : W1.cell? ⟨b0, 0, none⟩ = some (.int .i64 p.lay.width) := HC.out _ HAAW.out 0 _ rfl
                have c1 : W1.cell? ⟨b0, 1, none⟩ = some (.int .i64 p.lay.height) := HC.out _ HAAW.out 1 _ rfl
                have c2 : W1.cell? ⟨b0, 2, none⟩ = some (.bool p.lay.tiled) := HC.out _ HAAW.out 2 _ rfl
                have c3 : W1.cell? ⟨b0, 3, none⟩ = some (.int .i64 p.lay.w) := HC.out _ HAAW.out 3 _ rfl
                have c4 : W1.cell? ⟨b0, 4, none⟩ = some (.int .i64 p.lay.h) := HC.out _ HAAW.out 4 _ rfl
                have c12 : W1.cell? ⟨b0, 12, none⟩ = some (.bool p.two) := HC.out _ HAAW.out 12 _ rfl
                have HOB := Lib.hid hob
                clear hob
                by_cases hz : de = 0
                rotate_left
                · have hzb : ((de : Int) != 0) = true := by simpa using hz
                  have hob : ob = false := by rw [HOB.out]; simp [hz]
                  subst hob
                  clear hz d9 d0 d1 d2 d3 d4 d12 c9 c0 c1 c2 c3 c4 c12
                  go_wp2_with fail
                  go_meet
                  exact ⟨rfl, rfl⟩
                have hzb : ((de : Int) != 0) = false := by simpa using hz
                have HZ := Lib.hid hz
                clear hz
                obtain ⟨sc, hsc⟩ : ∃ sc, sc = PG.scheme := ⟨_, rfl⟩
                rw [← hsc] at d9 HOB
                clear hsc
                obtain ⟨x1, hx1⟩ : ∃ x1, x1 = PG.lay.width := ⟨_, rfl⟩
                rw [← hx1] at d0 HOB
                clear hx1
                obtain ⟨x2, hx2⟩ : ∃ x2, x2 = PG.lay.height := ⟨_, rfl⟩
                rw [← hx2] at d1 HOB
                clear hx2
                obtain ⟨x3, hx3⟩ : ∃ x3, x3 = PG.lay.tiled := ⟨_, rfl⟩
                rw [← hx3] at d2 HOB
                clear hx3
                obtain ⟨x4, hx4⟩ : ∃ x4, x4 = PG.lay.w := ⟨_, rfl⟩
                rw [← hx4] at d3 HOB
                clear hx4
                obtain ⟨x5, hx5⟩ : ∃ x5, x5 = PG.lay.h := ⟨_, rfl⟩
                rw [← hx5] at d4 HOB
                clear hx5
                obtain ⟨tw, htw⟩ : ∃ tw, tw = PG.two := ⟨_, rfl⟩
                rw [← htw] at d12 HOB
                clear htw
                by_cases hsc : sc = p.scheme
                rotate_left
                · have hob : ob = false := by rw [HOB.out]; simp [hsc]
                  subst hob
                  go_wp2_with fail
                  go_meet
                  exact ⟨rfl, rfl⟩
                subst hsc
                by_cases hx1 : x1 = p.lay.width
                rotate_left
                · have hob : ob = false := by rw [HOB.out]; simp [hx1]
                  subst hob
                  go_wp2_with fail
                  go_meet
                  exact ⟨rfl, rfl⟩
                subst hx1
                by_cases hx2 : x2 = p.lay.height
                rotate_left
                · have hob : ob = false := by rw [HOB.out]; simp [hx2]
                  subst hob
                  go_wp2_with fail
                  go_meet
                  exact ⟨rfl, rfl⟩
                subst hx2
                by_cases hx3 : x3 = p.lay.tiled
                rotate_left
                · have hob : ob = false := by rw [HOB.out]; simp [hx3]
                  subst hob
                  go_wp2_with fail
                  go_meet
                  exact ⟨rfl, rfl⟩
                subst hx3
                by_cases hx4 : x4 = p.lay.w
                rotate_left
                · have hob : ob = false := by rw [HOB.out]; simp [hx4]
                  subst hob
                  go_wp2_with fail
                  go_meet
                  exact ⟨rfl, rfl⟩
                subst hx4
                by_cases hx5 : x5 = p.lay.h
                rotate_left
                · have hob : ob = false := by rw [HOB.out]; simp [hx5]
                  subst hob
                  go_wp2_with fail
                  go_meet
                  exact ⟨rfl, rfl⟩
                subst hx5
                by_cases htw : tw = p.two
                rotate_left
                · have hob : ob = false := by rw [HOB.out]; simp [htw]
                  subst hob
                  go_wp2_with fail
                  go_meet
                  first | exact ⟨rfl, rfl⟩ | exact ⟨congrArg Value.bool (by simp [htw]), rfl⟩
                subst htw
                have hob : ob = true := by rw [HOB.out]; simp [HZ.out]
                subst hob
                go_wp2_with fail
                go_meet
                exact ⟨rfl, rfl⟩
              obtain ⟨rfl, rfl⟩ := hcut
              have hob2 : ob = decide (fieldsOk p al lg) := by
                rw [HOB0.out]
                refine decide_eq_decide.2 ?_
                unfold fieldsOk
                rw [← HLL.out, ← Hde.out]
                by_cases hz : de = 0
                · rw [HPG.out, if_pos hz]
                  generalize (pageV LL).lay = ly
                  generalize p.lay = ly'
                  obtain ⟨y1, y2, y3, y4, y5⟩ := ly
                  obtain ⟨z1, z2, z3, z4, z5⟩ := ly'
                  simp only [LayD.mk.injEq]
                  constructor
                  · rintro ⟨a, b, c, d, e, f, g, h⟩; exact ⟨a, b, ⟨c, d, e, f, g⟩, h⟩
                  · rintro ⟨a, b, ⟨c, d, e, f, g⟩, h⟩; exact ⟨a, b, c, d, e, f, g, h⟩
                · exact ⟨fun h => absurd h.1 hz, fun h => absurd h.1 hz⟩
              have HOB2 := Lib.hid hob2
              clear hob hob2
              cases ob
              · have hno : ¬ fieldsOk p al lg := by simpa using HOB2.out.symm
                have HER := Lib.hid (show er = 10 by rw [Her.out, fieldsE, HTW.out, if_neg (by decide), if_neg hno])
                have HLN := Lib.hid (show LV = [] by rw [HLVV.out, fieldsV, if_neg (by rw [← Her.out, HER.out]; decide)])
                clear hno
                go_wp2_with fail
                go_ret2
                exact ⟨.slice none 0 0, [], _, by rw [HER.out]; rfl, H23.out.perm (by rw [HPGB.out]; simp only [← star_assoc]; rfl), fun w h => ⟨⟨rfl, .inl ⟨rfl, rfl⟩⟩, fun x hx => by cases hx⟩, by rw [HLN.out]; rfl⟩
              · have hyes : fieldsOk p al lg := by simpa using HOB2.out.symm
                have HER := Lib.hid (show er = 0 by rw [Her.out, fieldsE, HTW.out, if_neg (by decide), if_pos hyes])
                have HLN := Lib.hid (show LV = LL by rw [HLVV.out, fieldsV, if_pos (by rw [← Her.out, HER.out]), HLL.out])
                clear hyes
                go_wp2_with fail
                go_ret2
                refine ⟨(.slice aL nl cL), L, own 53 3 (.slice aL nl cL) nl (L.flatMap fldC) * (K * PGB), by rw [HER.out]; rfl, H23.out.right.right.perm (by rw [HPGB.out]; simp only [star_assoc]), fun w h => ?_, by rw [HLN.out, HEQ.out]⟩
                have h2 := h.perm (show _ = own 53 3 (.slice aL nl cL) nl (L.flatMap fldC) * (K * AA) by rw [HPGB.out]; simp only [star_assoc])
                exact ⟨by rw [HNN.out]; exact h2.reads, fun y hy => HVL'.out y hy w h2.right⟩
end Go.Proofs.Ythoegjdkeooenaa
