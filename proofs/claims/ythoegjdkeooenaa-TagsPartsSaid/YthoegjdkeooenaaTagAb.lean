/-
  Layer 23: fields of a size; the page that any fields tell of, or what is wrong first (TagsDescribe).
-/
import Derived.Test.YthoegjdkeooenaaTagAa
import Derived.Test.YthoegjdkeooenaaTagAc
namespace Go.Proofs.Ythoegjdkeooenaa
open Go.RowKit Go.Mz
set_option linter.unusedVariables false
set_option linter.unusedSimpArgs false
set_option maxRecDepth 100000

theorem wpList_load_blkG {P : Program} {w0 w : World} {F : SProp} {ops : Array Oper} {rest : List Oper} {o : Oper} {a : Act} {Q : Exit → Act → World → Prop} (hw : Region.wanted o (yielded ops a.tmps) = true) (ty : TypeId) (x : Operand) (ho : o.op = .load ty x)
    {g : Nat} {cs : Array Value} {e : TypeId} {fr : Nat × Nat} (h : St w0 w (blk g (.cells cs e fr) * F)) (hx : a.eval x = .pointer (some ⟨g, 0, none⟩)) {d : TypeDesc}
    (hu : P.underlying ty = some d) (hd : (match d with | .struct _ | .array _ _ => true | _ => false) = true) (hi : (P.info? ty).map (·.size) = some cs.size)
    (hK : wpList P ops Q rest (a.put o.dst (.agg cs)) w) : wpList P ops Q (o :: rest) a w := by
  unfold wpList
  rw [if_pos hw]
  exact .inl (wp_load_row ty x ho g hx e cs fr d h.at_ hu hd hi hK)
def sumF (L : List FV) : Nat := (L.map fun y => y.2.vals.length).sum
def fewB (L : List FV) : Bool := decide (L.length ≤ 64) && decide (sumF L ≤ 600)
theorem sumF_snoc (L : List FV) (y : FV) : sumF (L ++ [y]) = sumF L + y.2.vals.length := by
  unfold sumF; rw [List.map_append, List.sum_append]; simp
theorem sumF_le : ∀ {L : List FV} {n : Nat}, (∀ y ∈ L, y.2.vals.length ≤ n) → sumF L ≤ L.length * n
  | [], _, _ => by simp [sumF]
  | y :: r, n, h => by
    have ih := sumF_le (L := r) (n := n) fun z hz => h z (List.mem_cons_of_mem _ hz)
    have hy := h y List.mem_cons_self
    unfold sumF at *
    rw [List.map_cons, List.sum_cons, List.length_cons, Nat.add_mul, Nat.one_mul]
    omega
theorem sumF_mem {L : List FV} {y : FV} (h : y ∈ L) : y.2.vals.length ≤ sumF L := by
  induction L with
  | nil => cases h
  | cons z r ih =>
    unfold sumF at *
    rw [List.map_cons, List.sum_cons]
    rcases List.mem_cons.1 h with rfl | h
    · omega
    · have := ih h; omega
set_option maxHeartbeats 40000000 in
theorem few_any {w0 w : World} {F : SProp} (h : St w0 w F) {v : Value} {L : List FV} (hv : Stb w0 F (fun w => FldsR w v L)) (hb : ∀ y ∈ L, y.2.vals.length ≤ 35184372088832) :
    Calls Try.prog 7 #[v] w fun e w' => e = .returned (.bool (fewB L)) ∧ St w0 w' F := by
  obtain ⟨a, cap, rfl⟩ := (hv w h).row.sub
  have hmax : L.length ≤ 9223372036854775807 := by
    have := (hv w h).row.len_le
    unfold maxLen at this
    omega
  have HV := Lib.hid hv; have H := Lib.hid h; have HB := Lib.hid hb
  clear hv h hb
  obtain ⟨nl, hnl⟩ : ∃ nl, L.length = nl := ⟨_, rfl⟩
  have HNL := Lib.hid hnl
  rw [hnl] at hmax
  rw [hnl] at HV ⊢
  clear hnl
  go_enter Try.func7, Try.ntmps7
  go_wp2_with fail
  go_loopw [3, 8] (fun vs vi wr => ∃ (k : Nat) (x : Int), k ≤ nl ∧ vi = .int .i64 k ∧ vs = .int .i64 x ∧ (k ≤ 64 → x = sumF (L.take k)) ∧ St w0 wr F) (fun vs vi _ => nl - (intOf vi).toNat)
  case atStart => exact ⟨0, 0, by omega, rfl, rfl, fun _ => by simp [sumF], H.out⟩
  case round =>
    clear H
    obtain ⟨k, x, hk, rfl, rfl, hx, hst⟩ := hrel
    by_cases hkn : k < nl
    · have hkL : k < L.length := by rw [HNL.out]; exact hkn
      have hxx := List.getElem?_eq_getElem hkL
      have hr := (HV.out _ hst).row
      rw [HNL.out] at hr
      obtain ⟨b, off, rfl, c0, c1, c2⟩ := reads_fld hr hxx
      obtain ⟨ao, co, hos⟩ := ((HV.out _ hst).vals _ (List.getElem_mem hkL)).sub
      have hkI : (k : Int) < nl := by omega
      have htk : L.take (k + 1) = L.take k ++ [L[k]] := List.take_succ_eq_append_getElem hkL
      have hbk := HB.out _ (List.getElem_mem hkL)
      have hsm : k ≤ 64 → sumF (L.take k) ≤ 64 * 35184372088832 := fun h64 => by
        have h1 := sumF_le (L := L.take k) (n := 35184372088832) fun y hy => HB.out y (List.mem_of_mem_take hy)
        rw [List.length_take, Nat.min_eq_left (by omega)] at h1
        exact Nat.le_trans h1 (Nat.mul_le_mul_right _ h64)
      generalize L[k] = o at *
      obtain ⟨ov, o⟩ := o
      simp only at hos
      subst hos
      simp only at c0 c1 c2 hbk
      have HTK := Lib.hid htk; have HX := Lib.hid hx; have HSM := Lib.hid hsm; have HBK := Lib.hid hbk
      have HST := Lib.hid (hst.drop_alloc (.cells #[.int .u16 (o.tag : Int), .int .i64 o.kind, .slice ao o.vals.length co] 53))
      generalize hnn : o.vals.length = nn at *
      have HNN := Lib.hid hnn
      clear hxx hr htk hx hsm hst hbk hnn
      go_wp2_with fail
      refine ⟨⟨k + 1, wrap64 (x + nn), by omega, by go_num, rfl, fun h64 => ?_, HST.out⟩, by simp [intOf]; omega⟩
      rw [HTK.out, sumF_snoc, HX.out (by omega)]
      have h1 := HSM.out (by omega)
      have h2 := HBK.out
      have h3 := HNN.out
      simp only [h3]
      unfold wrap64
      omega
    · obtain rfl : k = nl := by omega
      have HST := Lib.hid hst
      have hkI : ¬ (k : Int) < k := by omega
      by_cases h64 : k ≤ 64
      · have hx2 := hx h64
        rw [List.take_of_length_le (by rw [HNL.out]; exact Nat.le_refl _)] at hx2
        have hI : (k : Int) ≤ 64 := by omega
        have HX := Lib.hid hx2
        have HH := Lib.hid h64
        clear hx hst h64 hx2
        go_wp2_with fail
        go_ret
        refine ⟨congrArg (fun b => Ending.returned (.bool b)) ?_, HST.out⟩
        have h1 := HX.out
        unfold fewB
        rw [HNL.out, decide_eq_true HH.out, Bool.true_and, h1]
        simp
        try omega
      · have hI : ¬ (k : Int) ≤ 64 := by omega
        have HH := Lib.hid h64
        clear hx hst h64
        go_wp2_with fail
        go_ret
        refine ⟨congrArg (fun b => Ending.returned (.bool b)) ?_, HST.out⟩
        unfold fewB
        rw [HNL.out, decide_eq_false HH.out, Bool.false_and]
theorem few_all {L : List FV} (h : fewB L = true) : L.length ≤ 64 ∧ ∀ y ∈ L, y.2.vals.length ≤ 600 := by
  unfold fewB at h
  rw [Bool.and_eq_true] at h
  have h2 := of_decide_eq_true h.2
  exact ⟨of_decide_eq_true h.1, fun y hy => Nat.le_trans (sumF_mem hy) h2⟩
theorem FldsR.of_old {w : World} {v : Value} {L : List FV} (h : FldsR w v L) : Stb w (Mz.old w) (fun w' => FldsR w' v L) :=
  fun w' hw => ⟨Stb.of_old h.row w' hw, fun y hy => Stb.of_old (h.vals y hy) w' hw⟩
/-- A struct that PgOut tells of, with its slices' shapes. -/
theorem PgOut.shape {w0 w' : World} {F : SProp} {p : PgD} {er : Nat} {e : Ending} (h : PgOut w0 F p er e w') :
    ∃ ao ac ar co cc cr R K, e = .returned (.tuple #[.agg (pgC p (.slice ao p.offs.length co) (.slice ac p.cnts.length cc) (.slice ar R.length cr)), .int .i64 (er : Int)]) ∧ St w0 w' (K * F) ∧
      Stb w0 (K * F) (fun w => PgR w p (.slice ao p.offs.length co) (.slice ac p.cnts.length cc) (.slice ar R.length cr) R) := by
  obtain ⟨vo, vc, vr, R, K, rfl, hs, hp⟩ := h
  obtain ⟨ao, co, rfl⟩ := (hp _ hs).offs.sub
  obtain ⟨ac, cc, rfl⟩ := (hp _ hs).cnts.sub
  obtain ⟨ar, cr, rfl⟩ := (hp _ hs).rest.row.sub
  exact ⟨ao, ac, ar, co, cc, cr, R, K, rfl, hs, hp⟩
theorem needV_le {l : List Fld} {n t : Nat} (h : ∀ f ∈ l, f.vals.length ≤ n) : (needV l t).length ≤ n := by
  unfold needV findF
  cases hf : l.find? (fun f => f.tag == t) with
  | none => simp
  | some f =>
    simp only
    split
    · exact h f (List.mem_of_find?_eq_some hf)
    · simp
namespace tdesc
set_option maxHeartbeats 40000000 in
theorem walk (v : Value) (L : List FV) (w : World) (hv : FldsR w v L) (hq : (∀ y ∈ L, y.2.tag < 65536) ∧ ∀ y ∈ L, y.2.vals.length ≤ 35184372088832) :
    Calls Try.prog 3 #[v] w fun e w' => e = .returned (.bool true) ∧ Below w.heap.size w w' := by
  obtain ⟨hT, hb⟩ := hq
  have HV := Lib.hid (FldsR.of_old hv)
  obtain ⟨a0, c0, rfl⟩ := hv.row.sub
  have H := Lib.hid (St.init w)
  have fin' : ∀ w', St w w' (Mz.old w) → Below w.heap.size w w' := fun w' h => (h.perm ((emp_star _).symm.trans (star_comm _ _))).below
  have FIN := Lib.hid fin'
  have HT := Lib.hid hT; have HB := Lib.hid hb
  obtain ⟨fb, hfb⟩ : ∃ fb, fb = fewB L := ⟨_, rfl⟩
  clear fin' hv hT hb
  go_enter Try.func3, Try.ntmps3
  go_wp2_with (go_at_call 6; apply stop)
  refine on ((lives_any H.out).mono ?_)
  rintro e w1 ⟨rfl, h1⟩
  have HFW := few_any h1 HV.out HB.out
  rw [← hfb] at HFW
  have HFW2 := Lib.hid HFW
  have Hfb := Lib.hid hfb
  clear H HFW hfb h1
  go_wp2_with (go_at_call 7; apply stop)
  refine on (HFW2.out.mono ?_)
  rintro e w2 ⟨rfl, h2⟩
  have H2 := Lib.hid h2
  clear HFW2 h2
  cases fb
  · go_wp2_with (go_at_call 6; apply stop)
    refine on ((lives_any H2.out).mono ?_)
    rintro e w3 ⟨rfl, h3⟩
    have H3 := Lib.hid h3
    clear h3 H2
    go_wp2_with fail
    go_ret
    exact ⟨rfl, FIN.out _ H3.out⟩
  · obtain ⟨hL64, hV600⟩ := few_all Hfb.out.symm
    have HD := Lib.hid (describe_any H2.out HV.out (by omega) (fun x hx => Nat.le_trans (hV600 x hx) (by decide)))
    have HL64 := Lib.hid hL64; have HV6 := Lib.hid hV600
    obtain ⟨de, hde⟩ : ∃ de, de = descE (fl L) := ⟨_, rfl⟩
    obtain ⟨PG, hPG⟩ : ∃ PG, PG = (if descE (fl L) = 0 then pageV (fl L) else nonePg) := ⟨_, rfl⟩
    rw [← hPG, ← hde] at HD
    have HPG := Lib.hid hPG; have Hde := Lib.hid hde
    clear hL64 hV600 hPG hde
    go_wp2_with (go_at_call 8; apply stop)
    refine on (HD.out.mono ?_)
    intro e w3 hout
    obtain ⟨ao, ac, ar, co, cc, cr, R, K, rfl, hs, hp⟩ := hout.shape
    have HP := Lib.hid hp
    have HS4 := Lib.hid (hs.alloc (.cells pg0 30))
    clear hout hs hp HD H2
    go_upto_region 4 with (refine wpList_store_blk rfl 30 _ _ rfl HS4.out rfl rfl (by show _ = some 16; kernel_rfl) rfl rfl ?_)
    have HS5 := Lib.hid (HS4.out.setRow (pgC PG (.slice ao PG.offs.length co) (.slice ac PG.cnts.length cc) (.slice ar R.length cr)))
    clear HS4
    generalize w3.heap.size = g3 at *
    generalize World.setRow _ _ _ = W3 at *
    have HD := rdescribe_any HS5.out (fun w h => HV.out w h.right.right) (by have := HL64.out; omega) HT.out (fun x hx => Nat.le_trans (HV6.out x hx) (by decide))
    rw [← HPG.out, ← Hde.out] at HD
    have HD2 := Lib.hid HD
    clear HD
    go_wp2_with (go_at_call 9; apply stop)
    refine on (HD2.out.mono ?_)
    intro e w4 hout
    obtain ⟨ao2, ac2, ar2, co2, cc2, cr2, R2, K2, rfl, hs2, hp2⟩ := hout.shape
    have HP2 := Lib.hid hp2
    have HS6 := Lib.hid (hs2.alloc (.cells pg0 30))
    clear hout hs2 hp2 HD2
    go_upto_region 5 with (refine wpList_store_blk rfl 30 _ _ rfl HS6.out rfl rfl (by show _ = some 16; kernel_rfl) rfl rfl ?_)
    have HS7 := Lib.hid (HS6.out.setRow (pgC PG (.slice ao2 PG.offs.length co2) (.slice ac2 PG.cnts.length cc2) (.slice ar2 R2.length cr2)))
    clear HS6
    generalize w4.heap.size = g4 at *
    generalize World.setRow _ _ _ = W4 at *
    have HS3 := Lib.hid (HS7.out.perm (show _ = blk g3 (.cells (pgC PG (.slice ao PG.offs.length co) (.slice ac PG.cnts.length cc) (.slice ar R.length cr)) 30) * (blk g4 (.cells (pgC PG (.slice ao2 PG.offs.length co2) (.slice ac2 PG.cnts.length cc2) (.slice ar2 R2.length cr2)) 30) * (K2 * (K * Mz.old w))) by ac_rfl))
    have hpl : PG.offs.length ≤ 1000000 ∧ PG.cnts.length ≤ 1000000 ∧ PG.rest.length ≤ 1000000 ∧ ∀ f ∈ PG.rest, f.vals.length ≤ 1000000 := by
      have hf : ∀ f ∈ fl L, f.vals.length ≤ 600 := fun f hf => by
        obtain ⟨y, hy, rfl⟩ := List.mem_map.1 hf
        exact HV6.out y hy
      have hll : (fl L).length ≤ 64 := by rw [fl, List.length_map]; exact HL64.out
      rw [HPG.out]
      split
      · refine ⟨Nat.le_trans (needV_le hf) (by decide), Nat.le_trans (needV_le hf) (by decide), Nat.le_trans (List.length_filter_le _ _) (by omega), fun f hm => Nat.le_trans (hf f (List.mem_filter.1 hm).1) (by decide)⟩
      · exact ⟨by decide, by decide, by decide, fun f hm => by cases hm⟩
    have HSP := Lib.hid (samePage_any (p := PG) HS7.out (R := R) (S := R2) (fun w h => HP.out w h.right.right.right) (fun w h => HP2.out w h.right) hpl.1 hpl.2.1 hpl.2.2.1 hpl.2.2.2)
    clear hpl
    go_wp2_with (first | (go_at_call 10; apply stop) | (refine wpList_load_blkG rfl 30 _ rfl HS3.out rfl Try.underlying30 rfl (by show _ = some 16; kernel_rfl) ?_) | (refine wpList_load_blkG rfl 30 _ rfl HS7.out rfl Try.underlying30 rfl (by show _ = some 16; kernel_rfl) ?_))
    refine on (HSP.out.mono ?_)
    rintro e w5 ⟨rfl, h5⟩
    have H5 := Lib.hid h5
    clear h5 HSP HS3 HS7
    go_wp2_with fail
    go_ret
    exact ⟨rfl, FIN.out _ H5.out.right.right.right.right⟩
end tdesc
end Go.Proofs.Ythoegjdkeooenaa
