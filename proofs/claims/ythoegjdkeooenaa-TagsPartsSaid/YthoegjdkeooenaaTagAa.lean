/-
  Layer 23: the law's own functions (a page of one pixel, the chapter's example, fields of a size).
-/
import Derived.Test.YthoegjdkeooenaaTagC
namespace Go.Proofs.Ythoegjdkeooenaa
open Go.RowKit Go.Mz
set_option linter.unusedVariables false
set_option linter.unusedSimpArgs false
set_option maxRecDepth 100000

theorem exec_load_blk {P : Program} {w0 w : World} {F : SProp} {o : Oper} {a : Act} (ty : TypeId) (x : Operand) (ho : o.op = .load ty x) {g : Nat} {cs : Array Value} {e : TypeId} {fr : Nat × Nat} (h : St w0 w (blk g (.cells cs e fr) * F)) (hx : a.eval x = .pointer (some ⟨g, 0, none⟩)) {d : TypeDesc}
    (hu : P.underlying ty = some d) (hd : (match d with | .struct _ | .array _ _ => true | _ => false) = true) (hi : (P.info? ty).map (·.size) = some cs.size) : (execOp a.eval o).run P w = .ok (.value (.agg cs)) w := by
  unfold execOp
  simp only [ho, hx, Instr.loadAt, Instr.sureAddr, Sem.run_bind, Sem.run_pure, Result.andThen_ok, run_loadVar_row w g e ty cs fr d h.at_ hu hd hi]

/-- The page of one pixel. -/
def plP : PgD := ⟨⟨1, 1, false, 1, 1⟩, 1, 8, 0, false, 1, false, false, false, [8], [1], []⟩
def PlainOut (w0 : World) (F : SProp) (e : Ending) (w' : World) : Prop :=
  ∃ a b K, e = .returned (.agg (pgC plP (.slice (some a) 1 1) (.slice (some b) 1 1) (.slice none 0 0))) ∧ St w0 w' (K * F) ∧ Stb w0 (K * F) (fun w => PgR w plP (.slice (some a) 1 1) (.slice (some b) 1 1) (.slice none 0 0) [])
theorem plain_any {w0 w : World} {F : SProp} (h : St w0 w F) : Calls Try.prog 22 #[] w (PlainOut w0 F) := by
  have h1 := ((h.alloc (.cells pg0 30)).alloc (.cells #[.int .u64 8] 27)).alloc (.cells #[.int .u64 1] 27)
  have s1 : (w.alloc (.cells pg0 30)).heap.size = w.heap.size + 1 := Array.size_push _
  have s2 : ((w.alloc (.cells pg0 30)).alloc (.cells #[.int .u64 8] 27)).heap.size = w.heap.size + 1 + 1 := by rw [← s1]; exact Array.size_push _
  rw [s2, s1] at h1
  have H2 := Lib.hid (h1.perm (show _ = blk w.heap.size (.cells pg0 30) * (blk (w.heap.size + 1) (.cells #[.int .u64 8] 27) * (blk (w.heap.size + 1 + 1) (.cells #[.int .u64 1] 27) * F)) by ac_rfl))
  clear h1 s1 s2 h
  go_enter Try.func22, Try.ntmps22
  go_wp2_with (refine wpList_store_blk rfl 30 _ _ rfl H2.out rfl rfl (by show _ = some 16; kernel_rfl) rfl rfl ?_)
  have H3 := Lib.hid (H2.out.setRow (pgC plP (.slice (some ⟨w.heap.size + 1, 0, none⟩) 1 1) (.slice (some ⟨w.heap.size + 1 + 1, 0, none⟩) 1 1) (.slice none 0 0)))
  refine bodyPost_ret1c rfl rfl H3.out.at_ Try.underlying30 rfl (by show _ = some 16; kernel_rfl) rfl ?_
  refine ⟨⟨w.heap.size + 1, 0, none⟩, ⟨w.heap.size + 1 + 1, 0, none⟩, blk w.heap.size (.cells (pgC plP (.slice (some ⟨w.heap.size + 1, 0, none⟩) 1 1) (.slice (some ⟨w.heap.size + 1 + 1, 0, none⟩) 1 1) (.slice none 0 0)) 30) * (blk (w.heap.size + 1) (.cells #[.int .u64 8] 27) * blk (w.heap.size + 1 + 1) (.cells #[.int .u64 1] 27)), rfl, H3.out.perm (by simp only [star_assoc]), fun W hW => ?_⟩
  have hW2 := (hW.perm (show _ = blk w.heap.size (.cells (pgC plP (.slice (some ⟨w.heap.size + 1, 0, none⟩) 1 1) (.slice (some ⟨w.heap.size + 1 + 1, 0, none⟩) 1 1) (.slice none 0 0)) 30) * (blk (w.heap.size + 1) (.cells #[.int .u64 8] 27) * (blk (w.heap.size + 1 + 1) (.cells #[.int .u64 1] 27) * F)) by simp only [star_assoc])).right
  have r1 := (hW2.own_blk (size := 1) (n := 1) (cap := 1) (xs := [.int .u64 8]) (Nat.le_refl 1) (by decide) rfl rfl).reads
  have r2 := (hW2.right.own_blk (size := 1) (n := 1) (cap := 1) (xs := [.int .u64 1]) (Nat.le_refl 1) (by decide) rfl rfl).reads
  exact ⟨r1, r2, ⟨⟨rfl, .inl ⟨rfl, rfl⟩⟩, fun x hx => by cases hx⟩, rfl⟩
theorem plain_err : fieldsE plP false false = 0 := by decide +kernel
theorem plain_len : (fieldsL plP false false).length = 12 := by decide +kernel
theorem plain_small : (fieldsL plP false false).all (fun f => decide (f.vals.length ≤ 10)) = true := by decide +kernel
theorem plain_page : descE (fieldsL plP false false) = 0 ∧ pageV (fieldsL plP false false) = plP := by
  obtain ⟨h1, h2, h3⟩ := fields_tell (p := plP) (al := false) (lg := false) (by decide) (by decide) (by decide) (by decide) plain_err
  refine ⟨h1, h2.trans ?_⟩
  have : (pageV (fieldsL plP false false)).rest = [] := List.eq_nil_of_length_eq_zero (h3.trans rfl)
  rw [this]
  rfl
set_option maxHeartbeats 40000000 in
theorem lives_any {w0 w : World} {F : SProp} (h : St w0 w F) : Calls Try.prog 6 #[] w fun e w' => e = .returned (.bool true) ∧ St w0 w' F := by
  have H := Lib.hid h; clear h
  go_enter Try.func6, Try.ntmps6
  have HP := Lib.hid (plain_any H.out)
  go_wp2_with (go_at_call 22; apply stop)
  refine on (HP.out.mono ?_)
  rintro e w1 ⟨pa, pb, K1, rfl, h1, hp1⟩
  have HF := Lib.hid (fields_any h1 hp1 (by decide) (by decide) (by decide) (fun f hf => by cases hf) (fun f hf => by cases hf) (by decide) false false)
  clear HP H
  rw [plain_err] at HF
  have hfv : fieldsV plP false false = fieldsL plP false false := by rw [fieldsV, if_pos plain_err]
  rw [hfv] at HF
  have H1 := Lib.hid h1
  clear h1 hp1 hfv
  go_wp2_with (go_at_call 11; apply stop)
  refine on (HF.out.mono ?_)
  rintro e w2 ⟨v2, R2, K2, rfl, h2, hr2, hf2⟩
  have hn2 : R2.length = 12 := by rw [← plain_len, ← hf2, fl, List.length_map]
  have hs2 : ∀ x ∈ R2, x.2.vals.length ≤ 1000000 := fun x hx => by
    have := List.all_eq_true.1 plain_small x.2 (by rw [← hf2]; exact List.mem_map_of_mem hx)
    have := of_decide_eq_true this
    omega
  have HD := describe_any h2 hr2 (by omega) hs2
  rw [hf2, plain_page.1, plain_page.2, if_pos rfl] at HD
  have HD2 := Lib.hid HD
  obtain ⟨a2, c2, rfl⟩ := (hr2 _ h2).row.sub
  rw [hn2] at HD2 ⊢
  clear HD HF h2 hr2 hf2 hs2 H1 hn2
  go_wp2_with (go_at_call 8; apply stop)
  refine on (HD2.out.mono ?_)
  rintro e w3 ⟨vo, vc, vr, RR, K3, rfl, h3, hpg⟩
  obtain ⟨ao2, co2, e1⟩ := (hpg _ h3).offs.sub
  have e1 : vo = .slice ao2 1 co2 := e1
  subst e1
  obtain ⟨ac2, cc2, e1⟩ := (hpg _ h3).cnts.sub
  have e1 : vc = .slice ac2 1 cc2 := e1
  subst e1
  have hrr : RR = [] := by
    have := (hpg _ h3).flds
    exact List.map_eq_nil_iff.1 this
  subst hrr
  obtain ⟨ar2, cr2, e1⟩ := (hpg _ h3).rest.row.sub
  have e1 : vr = .slice ar2 0 cr2 := e1
  subst e1
  have H4 := Lib.hid (h3.alloc (.cells pg0 30))
  have HPG := Lib.hid hpg
  clear h3 hpg HD2
  go_upto_region 3 with (refine wpList_store_blk rfl 30 _ _ rfl H4.out rfl rfl (by show _ = some 16; kernel_rfl) rfl rfl ?_)
  have H5 := Lib.hid (H4.out.setRow (pgC plP (.slice ao2 1 co2) (.slice ac2 1 cc2) (.slice ar2 0 cr2)))
  clear H4
  generalize w3.heap.size = g at *
  generalize World.setRow _ _ _ = W1 at *
  obtain ⟨F3, hF3⟩ : ∃ F3, F3 = K3 * (K2 * (K1 * F)) := ⟨_, rfl⟩
  have HPG' : Hid (Stb w0 F3 fun w => PgR w plP (.slice ao2 1 co2) (.slice ac2 1 cc2) (.slice ar2 0 cr2) []) := Lib.hid (by rw [hF3]; exact HPG.out)
  have H6 : Hid (St w0 W1 (blk g (.cells (pgC plP (.slice ao2 1 co2) (.slice ac2 1 cc2) (.slice ar2 0 cr2)) 30) * F3)) := Lib.hid (by rw [hF3]; exact H5.out)
  have HF3 := Lib.hid hF3
  clear hF3 H5 HPG
  refine wp_region_noPanic ?_
  refine region_till (S := fun W : World => St w0 W (blk g (.cells (pgC plP (.slice ao2 1 co2) (.slice ac2 1 cc2) (.slice ar2 0 cr2)) 30) * F3)) (k := 22) (by kernel_rfl) ?_
  have hS := H6.out.drew
  refine till_take0 (i := 0) (oi := ?_) (v := ?_) ?_ (by kernel_rfl) (by kernel_rfl) (by kernel_rfl) (by decide) (fun _ _ _ h => h.elim) (by assumption) (.inl ⟨?_, fun w => ?_⟩) ?_
  rotate_left 2
  · (simp only [List.getElem?_toArray, List.getElem?_cons_succ, List.getElem?_cons_zero]; rfl)
  · rfl
  · (go_simp; try with_reducible rfl)
  simp only [Act.put, List.setIfInBounds_toArray, List.set_cons_zero, List.set_cons_succ]
  refine till_take0 (i := 1) (oi := ?_) (v := ?_) ?_ (by kernel_rfl) (by kernel_rfl) (by kernel_rfl) (by decide) (fun _ _ _ h => h.elim) (by assumption) (.inl ⟨?_, fun w => ?_⟩) ?_
  rotate_left 2
  · (simp only [List.getElem?_toArray, List.getElem?_cons_succ, List.getElem?_cons_zero]; rfl)
  · rfl
  · (go_simp; try with_reducible rfl)
  simp only [Act.put, List.setIfInBounds_toArray, List.set_cons_zero, List.set_cons_succ]
  refine till_take0 (i := 2) (oi := ?_) (v := ?_) ?_ (by kernel_rfl) (by kernel_rfl) (by kernel_rfl) (by decide) (fun _ _ _ h => h.elim) (by assumption) (.inl ⟨?_, fun w => ?_⟩) ?_
  rotate_left 2
  · (simp only [List.getElem?_toArray, List.getElem?_cons_succ, List.getElem?_cons_zero]; rfl)
  · rfl
  · (go_simp; try with_reducible rfl)
  simp only [Act.put, List.setIfInBounds_toArray, List.set_cons_zero, List.set_cons_succ]
  refine till_take0 (i := 3) (oi := ?_) (v := ?_) ?_ (by kernel_rfl) (by kernel_rfl) (by kernel_rfl) (by decide) (fun _ _ _ h => h.elim) (by assumption) (.inl ⟨?_, fun w => ?_⟩) ?_
  rotate_left 2
  · (simp only [List.getElem?_toArray, List.getElem?_cons_succ, List.getElem?_cons_zero]; rfl)
  · rfl
  · (go_simp; try with_reducible rfl)
  simp only [Act.put, List.setIfInBounds_toArray, List.set_cons_zero, List.set_cons_succ]
  refine till_take0 (i := 4) (oi := ?_) (v := ?_) ?_ (by kernel_rfl) (by kernel_rfl) (by kernel_rfl) (by decide) (fun _ _ _ h => h.elim) (by assumption) (.inl ⟨?_, fun w => ?_⟩) ?_
  rotate_left 2
  · (simp only [List.getElem?_toArray, List.getElem?_cons_succ, List.getElem?_cons_zero]; rfl)
  · rfl
  · (go_simp; try with_reducible rfl)
  simp only [Act.put, List.setIfInBounds_toArray, List.set_cons_zero, List.set_cons_succ]
  refine till_take0 (i := 5) (oi := ?_) (v := ?_) ?_ (by kernel_rfl) (by kernel_rfl) (by kernel_rfl) (by decide) (fun _ _ _ h => h.elim) (by assumption) (.inl ⟨?_, fun w => ?_⟩) ?_
  rotate_left 2
  · (simp only [List.getElem?_toArray, List.getElem?_cons_succ, List.getElem?_cons_zero]; rfl)
  · rfl
  · (go_simp; try with_reducible rfl)
  simp only [Act.put, List.setIfInBounds_toArray, List.set_cons_zero, List.set_cons_succ]
  refine till_take0 (i := 6) (oi := ?_) (v := ?_) ?_ (by kernel_rfl) (by kernel_rfl) (by kernel_rfl) (by decide) (fun _ _ _ h => h.elim) (by assumption) (.inl ⟨?_, fun w => ?_⟩) ?_
  rotate_left 2
  · (simp only [List.getElem?_toArray, List.getElem?_cons_succ, List.getElem?_cons_zero]; rfl)
  · rfl
  · (go_simp; try with_reducible rfl)
  simp only [Act.put, List.setIfInBounds_toArray, List.set_cons_zero, List.set_cons_succ]
  refine till_take0 (i := 7) (oi := ?_) (v := ?_) ?_ (by kernel_rfl) (by kernel_rfl) (by kernel_rfl) (by decide) (fun _ _ _ h => h.elim) (by assumption) (.inl ⟨?_, fun w => ?_⟩) ?_
  rotate_left 2
  · (simp only [List.getElem?_toArray, List.getElem?_cons_succ, List.getElem?_cons_zero]; rfl)
  · rfl
  · (go_simp; try with_reducible rfl)
  simp only [Act.put, List.setIfInBounds_toArray, List.set_cons_zero, List.set_cons_succ]
  refine till_take0 (i := 8) (oi := ?_) (v := ?_) ?_ (by kernel_rfl) (by kernel_rfl) (by kernel_rfl) (by decide) (fun _ _ _ h => h.elim) (by assumption) (.inl ⟨?_, fun w => ?_⟩) ?_
  rotate_left 2
  · (simp only [List.getElem?_toArray, List.getElem?_cons_succ, List.getElem?_cons_zero]; rfl)
  · rfl
  · (go_simp; try with_reducible rfl)
  simp only [Act.put, List.setIfInBounds_toArray, List.set_cons_zero, List.set_cons_succ]
  refine till_take0 (i := 9) (oi := ?_) (v := ?_) ?_ (by kernel_rfl) (by kernel_rfl) (by kernel_rfl) (by decide) (fun _ _ _ h => h.elim) (by assumption) (.inl ⟨?_, fun w => ?_⟩) ?_
  rotate_left 2
  · (simp only [List.getElem?_toArray, List.getElem?_cons_succ, List.getElem?_cons_zero]; rfl)
  · rfl
  · (go_simp; try with_reducible rfl)
  simp only [Act.put, List.setIfInBounds_toArray, List.set_cons_zero, List.set_cons_succ]
  refine till_take0 (i := 10) (oi := ?_) (v := ?_) ?_ (by kernel_rfl) (by kernel_rfl) (by kernel_rfl) (by decide) (fun _ _ _ h => h.elim) (by assumption) (.inl ⟨?_, fun w => ?_⟩) ?_
  rotate_left 2
  · (simp only [List.getElem?_toArray, List.getElem?_cons_succ, List.getElem?_cons_zero]; rfl)
  · rfl
  · (go_simp; try with_reducible rfl)
  simp only [Act.put, List.setIfInBounds_toArray, List.set_cons_zero, List.set_cons_succ]
  refine till_take0 (i := 11) (oi := ?_) (v := ?_) ?_ (by kernel_rfl) (by kernel_rfl) (by kernel_rfl) (by decide) (fun _ _ _ h => h.elim) (by assumption) (.inl ⟨?_, fun w => ?_⟩) ?_
  rotate_left 2
  · (simp only [List.getElem?_toArray, List.getElem?_cons_succ, List.getElem?_cons_zero]; rfl)
  · rfl
  · (go_simp; try with_reducible rfl)
  simp only [Act.put, List.setIfInBounds_toArray, List.set_cons_zero, List.set_cons_succ]
  refine till_take (i := 12) (oi := ?_) (v := .agg (pgC plP (.slice ao2 1 co2) (.slice ac2 1 cc2) (.slice ar2 0 cr2))) ?_ (by kernel_rfl) (by kernel_rfl) (by kernel_rfl) (by kernel_rfl) (by kernel_rfl) (fun _ _ _ h => h.elim) (by assumption) (.inl ⟨?_, fun w hSw => exec_load_blk 30 (.tmp 3) ?_ hSw rfl Try.underlying30 rfl (by show _ = some 16; kernel_rfl)⟩) ?_
  rotate_left 1
  · (simp only [List.getElem?_toArray, List.getElem?_cons_succ, List.getElem?_cons_zero]; rfl)
  · rfl
  · rfl
  simp only [Act.put, List.setIfInBounds_toArray, List.set_cons_zero, List.set_cons_succ]
  clear hS
  have HD := Lib.hid H6.out.drew
  clear H6
  generalize W1.drew = W5 at *
  have HPL := Lib.hid (plain_any HD.out)
  refine till_one (i := 13) (by kernel_rfl) ?_
  refine wpOp_step (by rfl) fun K hK => ?_
  go_simp
  refine HPL.out.mono ?_
  rintro e W7 ⟨qa, qb, K7, rfl, h7, hp7⟩
  refine hK _ _ ⟨fun e => h7.right, ?_⟩
  clear hK K HPL HD
  have HSP := Lib.hid (samePage_any (p := plP) (R := []) (S := []) h7 (fun w h => HPG'.out w h.right.right) hp7 (by decide) (by decide) (by decide) (fun f hf => by cases hf))
  have H7 := Lib.hid h7
  clear h7 hp7
  refine till_one (i := 14) (by kernel_rfl) ?_
  refine wpOp_step (by rfl) fun K hK => ?_
  go_simp
  refine HSP.out.mono ?_
  rintro e W8 ⟨rfl, h8⟩
  refine hK _ _ ⟨fun e => h8.right, ?_⟩
  clear hK K HSP H7
  have hS := h8.right
  refine till_take0 (i := 15) (oi := ?_) (v := ?_) ?_ (by kernel_rfl) (by kernel_rfl) (by kernel_rfl) (by decide) (fun _ _ _ h => h.elim) (by assumption) (.inl ⟨?_, fun w => ?_⟩) ?_
  rotate_left 2
  · (simp only [List.getElem?_toArray, List.getElem?_cons_succ, List.getElem?_cons_zero]; rfl)
  · rfl
  · (go_simp; try with_reducible rfl)
  simp only [Act.put, List.setIfInBounds_toArray, List.set_cons_zero, List.set_cons_succ]
  refine till_take0 (i := 16) (oi := ?_) (v := ?_) ?_ (by kernel_rfl) (by kernel_rfl) (by kernel_rfl) (by decide) (fun _ _ _ h => h.elim) (by assumption) (.inl ⟨?_, fun w => ?_⟩) ?_
  rotate_left 2
  · (simp only [List.getElem?_toArray, List.getElem?_cons_succ, List.getElem?_cons_zero]; rfl)
  · rfl
  · (go_simp; try with_reducible rfl)
  simp only [Act.put, List.setIfInBounds_toArray, List.set_cons_zero, List.set_cons_succ]
  refine till_take0 (i := 17) (oi := ?_) (v := ?_) ?_ (by kernel_rfl) (by kernel_rfl) (by kernel_rfl) (by decide) (fun _ _ _ h => h.elim) (by assumption) (.inl ⟨?_, fun w => ?_⟩) ?_
  rotate_left 2
  · (simp only [List.getElem?_toArray, List.getElem?_cons_succ, List.getElem?_cons_zero]; rfl)
  · rfl
  · (go_simp; try with_reducible rfl)
  simp only [Act.put, List.setIfInBounds_toArray, List.set_cons_zero, List.set_cons_succ]
  refine till_take0 (i := 18) (oi := ?_) (v := ?_) ?_ (by kernel_rfl) (by kernel_rfl) (by kernel_rfl) (by decide) (fun _ _ _ h => h.elim) (by assumption) (.inl ⟨?_, fun w => ?_⟩) ?_
  rotate_left 2
  · (simp only [List.getElem?_toArray, List.getElem?_cons_succ, List.getElem?_cons_zero]; rfl)
  · rfl
  · (go_simp; try with_reducible rfl)
  simp only [Act.put, List.setIfInBounds_toArray, List.set_cons_zero, List.set_cons_succ]
  refine till_take0 (i := 19) (oi := ?_) (v := ?_) ?_ (by kernel_rfl) (by kernel_rfl) (by kernel_rfl) (by decide) (fun _ _ _ h => h.elim) (by assumption) (.inl ⟨?_, fun w => ?_⟩) ?_
  rotate_left 2
  · (simp only [List.getElem?_toArray, List.getElem?_cons_succ, List.getElem?_cons_zero]; rfl)
  · rfl
  · (go_simp; try with_reducible rfl)
  simp only [Act.put, List.setIfInBounds_toArray, List.set_cons_zero, List.set_cons_succ]
  refine till_take0 (i := 20) (oi := ?_) (v := ?_) ?_ (by kernel_rfl) (by kernel_rfl) (by kernel_rfl) (by decide) (fun _ _ _ h => h.elim) (by assumption) (.inl ⟨?_, fun w => ?_⟩) ?_
  rotate_left 2
  · (simp only [List.getElem?_toArray, List.getElem?_cons_succ, List.getElem?_cons_zero]; rfl)
  · rfl
  · (go_simp; try with_reducible rfl)
  simp only [Act.put, List.setIfInBounds_toArray, List.set_cons_zero, List.set_cons_succ]
  refine till_take0 (i := 21) (oi := ?_) (v := ?_) ?_ (by kernel_rfl) (by kernel_rfl) (by kernel_rfl) (by decide) (fun _ _ _ h => h.elim) (by assumption) (.inl ⟨?_, fun w => ?_⟩) ?_
  rotate_left 2
  · (simp only [List.getElem?_toArray, List.getElem?_cons_succ, List.getElem?_cons_zero]; rfl)
  · rfl
  · (go_simp; try with_reducible rfl)
  simp only [Act.put, List.setIfInBounds_toArray, List.set_cons_zero, List.set_cons_succ]
  clear hS
  refine till_one (i := 22) (by kernel_rfl) ?_
  refine wpOp_step (by rfl) fun K hK => ?_
  go_simp
  refine hK _ _ ⟨fun e => (by first | exact absurd e (by decide) | (simp at e)), ?_⟩
  clear hK K
  have H8 := Lib.hid (h8.right.right.perm HF3.out)
  clear h8
  refine ⟨(by kernel_rfl), NoPanic.normal ?_⟩
  go_wp2_with fail
  go_ret
  exact ⟨rfl, H8.out.right.right.right⟩
end Go.Proofs.Ythoegjdkeooenaa
