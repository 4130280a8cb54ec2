/-
  Parts of a proof.
-/
import Derived.Test.YtboflbdniogcdaaGreatDoorK11
import Derived.Test.YtboflbdniogcdaaGreatDoorK12
import Derived.Test.YtboflbdniogcdaaGreatDoorK22
import Derived.Test.YtboflbdniogcdaaGreatDoorK21
import Derived.Test.YtboflbdniogcdaaGreatDoorK23
namespace Go.Proofs.YtboflbdniogcdaaGreatDoor
open Go.RowKit Go.Mz
set_option linter.unusedVariables false
set_option linter.unusedSimpArgs false
set_option maxRecDepth 100000
inductive PbRows : List (List UInt8) → List UInt8 → Prop
 | nil : PbRows [] []
 | cons {b z : List UInt8} {L : List (List UInt8)} {Z : List UInt8} : PbS b z → PbRows L Z → PbRows (b :: L) (z ++ Z)
theorem PbRows.snoc {L : List (List UInt8)} {Z b z : List UInt8} (h : PbRows L Z) (hb : PbS b z) : PbRows (L ++ [b]) (Z ++ z) := by
 induction h with
 | nil => simpa using PbRows.cons hb .nil
 | cons h1 h2 ih => rw [List.cons_append, List.append_assoc]; exact .cons h1 ih
theorem PbRows.len {L : List (List UInt8)} {Z : List UInt8} (h : PbRows L Z) : Z.length ≤ 2 * (joinL L).length := by
 induction h with
 | nil => simp
 | cons h1 h2 ih => have := h1.len; simp only [joinL, List.flatten_cons, List.length_append] at *; omega
theorem joinL_take_le {L : List (List UInt8)} (k : Nat) : (joinL (L.take k)).length ≤ (joinL L).length := by
 have e : L = L.take k ++ L.drop k := (List.take_append_drop k L).symm
 conv => rhs; rw [e]
 rw [joinL, joinL, List.flatten_append, List.length_append]; omega
theorem joinL_mem_le {L : List (List UInt8)} {X : List UInt8} (h : X ∈ L) : X.length ≤ (joinL L).length := by
 induction L with
 | nil => cases h
 | cons y r ih =>
  simp only [joinL, List.flatten_cons, List.length_append] at *
  rcases List.mem_cons.1 h with rfl | h
  ·omega
  ·have := ih h; omega
set_option maxHeartbeats 40000000 in
theorem tell_pb {w0 w : World} {F : SProp} (h : St w0 w F) {R : List (Value × List UInt8)} {v : Value} (hv : Stb w0 F (fun w => Reads w 1 v R.length (R.map Prod.fst))) (hr : Stb w0 F (fun w => ∀ x ∈ R, Reads w 1 x.1 x.2.length (x.2.map bv))) (hN : R.length ≤ 1000000) (hL : (joinL (R.map Prod.snd)).length ≤ 1000000) (o : Opt) (hs : o.scheme = 32773) (p : Array Value) :
  Calls Tryz.prog 18 #[v, .agg p, o.v] w fun e w' => ∃ v' z, e = .returned (.tuple #[v', .int .i64 0]) ∧ PbRows (R.map Prod.snd) z ∧ St w0 w' (own 5 1 v' z.length (z.map bv) * F) := by
 obtain ⟨big, large, tiled, ow, oh, planar, scheme, predict, low, two, every, al, fin, how⟩ := o
 simp only [Opt.v]
 simp only at hs
 subst hs
 have h3 := two_alloc h (.cells p 24) (.cells #[.bool big, .bool large, .bool tiled, .int .i64 ow, .int .i64 oh, .bool planar, .int .i64 32773, .bool predict, .bool low, .bool two, .int .i64 every, .bool al, .bool fin, .int .i64 how] 28)
 have f6 := h3.cell 6 rfl
 obtain ⟨a0, c0, rfl⟩ := (hv w h).sub
 have HV := Lib.hid hv; have HR := Lib.hid hr
 have HLE := Lib.hid (fun k => joinL_take_le (L := R.map Prod.snd) k)
 have HME := Lib.hid (fun X (hX : X ∈ R.map Prod.snd) => joinL_mem_le hX)
 obtain ⟨nr, hnr⟩ : ∃ nr, R.length = nr := ⟨_, rfl⟩
 rw [hnr] at hN HV ⊢
 have HNR := Lib.hid hnr
 have HLL := Lib.hid hL
 have H3 := Lib.hid h3
 clear h hv hr hnr hL h3
 have T := elemBytes
 go_enter Tryz.func18, Tryz.ntmps18
 go_wp2_with fail
 have hz2 : ∀ o0 o1 : Obj, ((w.alloc o0).alloc o1).heap.size = w.heap.size + 1 + 1 := fun o0 o1 => (Array.size_push _).trans (congrArg (· + 1) (Array.size_push _))
 have h1 := H3.out.lit #[] 5 0 rfl (by decide)
 rw [hz2] at h1
 have H1 := Lib.hid h1
 clear h1 H3 f6 hz2
 generalize (World.alloc (World.alloc w _) _) = wz at *
 generalize w.heap.size = gp at *
 go_loopw [8, 23] (fun vo vi wr => ∃ (k zl : Nat) (ao : Option Addr) (co : Nat) (Z : List UInt8), k ≤ nr ∧ vi = .int .i64 k ∧ vo = .slice ao zl co ∧ RowKit.Hid (PbRows ((R.take k).map Prod.snd) Z ∧ Z.length = zl) ∧ zl ≤ 2000000 ∧ St w0 wr (own 5 1 (.slice ao zl co) zl (Z.map bv) * (blk (gp + 1) (.cells #[.bool big, .bool large, .bool tiled, .int .i64 ow, .int .i64 oh, .bool planar, .int .i64 32773, .bool predict, .bool low, .bool two, .int .i64 every, .bool al, .bool fin, .int .i64 how] 28) * (blk gp (.cells p 24) * F)))) (fun _ vi _ => nr - (intOf vi).toNat)
 case atStart => exact ⟨0, 0, _, 0, [], Nat.zero_le _, rfl, rfl, Lib.hid ⟨.nil, rfl⟩, Nat.zero_le _, H1.out⟩
 case round =>
  clear H1
  obtain ⟨k, zl, ao, co, Z, hk, rfl, rfl, hZ, hzl, hst⟩ := hrel
  by_cases hkn : k < nr
  ·have hkI : (k : Int) < nr := by omega
   have hkR : k < R.length := by rw [HNR.out]; exact hkn
   obtain ⟨x, hx⟩ : ∃ x, R[k]? = some x := ⟨R[k], List.getElem?_eq_getElem _⟩
   obtain ⟨b, off, rfl, hc⟩ := (HV.out _ hst.right.right.right).at_ hkn
   rw [List.getElem?_map, hx] at hc
   obtain ⟨vx, X⟩ := x
   have hRX := fun w h => HR.out w h _ (List.mem_of_getElem? hx)
   simp only [Option.map_some] at hc
   have hXl : X.length ≤ 1000000 := Nat.le_trans (HME.out X (List.mem_map.2 ⟨_, List.mem_of_getElem? hx, rfl⟩)) HLL.out
   have HX := Lib.hid (pencode_any hst (bs := X) (v := vx) (fun w h => hRX w h.right.right.right) hXl)
   have HTK := Lib.hid (show (R.take (k + 1)).map Prod.snd = (R.take k).map Prod.snd ++ [X] by rw [take_snoc hx, List.map_append]; rfl)
   clear hx hst hRX hXl
   go_wp2_with (first | (go_at_call 39; refine HX.out.mono ?_; rintro e w2 ⟨v2, z2, rfl, hz2, h2⟩; have HZ2 := Lib.hid hz2; obtain ⟨a2, c2, rfl⟩ := h2.reads.sub; have H2 := Lib.hid h2; clear h2 hz2) | (at_builtin; apply stop))
   have hnew : PbRows ((R.take (k + 1)).map Prod.snd) (Z ++ z2) := by rw [HTK.out]; exact hZ.out.1.snoc HZ2.out
   have hle := Nat.le_trans hnew.len (Nat.mul_le_mul_left 2 (by rw [List.map_take]; exact HLE.out (k + 1)))
   rw [List.length_append, hZ.out.2] at hle
   have hle2 : zl + z2.length ≤ 2000000 := by have := HLL.out; omega
   have HNW := Lib.hid hnew
   clear hnew hle
   obtain ⟨z2l, hz2l⟩ : ∃ n, z2.length = n := ⟨_, rfl⟩
   rw [hz2l] at H2 hle2 ⊢
   have HXL := Lib.hid hz2l
   clear hz2l
   refine on (wpList_append_sep T rfl _ _ rfl rfl (H2.out.perm (star_left_comm _ _ _)) rfl H2.out.reads (bv_oneCell z2) (by unfold maxLen; omega) (by omega) ?_)
   intro v3 w3 h3 _
   rw [← List.map_append] at h3
   have HZL := Lib.hid (show (Z ++ z2).length = zl + z2l by rw [List.length_append, hZ.out.2, HXL.out])
   generalize Z ++ z2 = Z2 at *
   obtain ⟨a3, c3, rfl⟩ := h3.reads.sub
   have H3 := Lib.hid ((h3.perm (star_left_comm _ _ _)).right)
   clear h3 H2 HX
   go_wp2_with fail
   exact ⟨⟨k + 1, zl + z2l, a3, c3, Z2, by omega, by go_num, rfl, Lib.hid ⟨HNW.out, HZL.out⟩, hle2, H3.out⟩, by simp [intOf]; omega⟩
  ·obtain rfl : k = nr := by omega
   have HST := Lib.hid hst.right.right
   have hst2 := (hst.perm (star_left_comm _ _ _)).right.perm (star_left_comm _ _ _)
   have HS2 := Lib.hid hst2.right
   clear hst hst2
   go_wp2_with fail
   go_ret2
   have hZ := hZ.out
   rw [← HNR.out, List.take_length] at hZ
   refine ⟨_, Z, rfl, hZ.1, ?_⟩
   rw [hZ.2]
   exact HS2.out
def chgsF (W : Nat) (L : List (List UInt8)) : List (List Nat) := L.map fun X => chg ((bitsL false X).take W)
theorem rowOk_chg24 {P : List Nat} {width : Nat} (h : P.length = width) (hw : width ≤ 400) : RowOk width (chg P) :=
 ⟨chg_inc P, fun x hx => h ▸ chg_lt P x hx, Nat.le_trans (chg_len P) (by omega)⟩
theorem reads_rowI24 (w : World) (v : Value) : Reads (w.alloc (.cells #[v] 79)) 1 (.slice (some ⟨w.heap.size, 0, none⟩) 1 1) 1 [v] :=
 (St.own_blk (e := 79) (size := 1) (n := 1) (cap := 1) (xs := [v]) ((St.init w).alloc _) (Nat.le_refl _) (by decide) rfl rfl).reads
set_option maxHeartbeats 40000000 in
theorem tell_mh {w0 w : World} {F : SProp} (h : St w0 w F) (htab : Tab w0 F) {R : List (Value × List UInt8)} {v : Value} (hv : Stb w0 F (fun w => Reads w 1 v R.length (R.map Prod.fst))) (hr : Stb w0 F (fun w => ∀ x ∈ R, Reads w 1 x.1 x.2.length (x.2.map bv))) (hN : R.length ≤ 300) {W : Nat} (h1 : 1 ≤ W) (hw : W ≤ 400) (hL : ∀ x ∈ R, (W + 7) / 8 ≤ x.2.length ∧ x.2.length ≤ 1000000) {big large tiled planar predict low two al fin : Bool} {ow oh every how ph pper pwide : Int} {pv : Value} :
  Calls Tryz.prog 18 #[v, .agg #[.int .i64 (W : Int), .int .i64 ph, .int .i64 pper, .int .i64 pwide, pv], .agg #[.bool big, .bool large, .bool tiled, .int .i64 ow, .int .i64 oh, .bool planar, .int .i64 2, .bool predict, .bool low, .bool two, .int .i64 every, .bool al, .bool fin, .int .i64 how]] w fun e w' => ∃ v', e = .returned (.tuple #[v', .int .i64 0]) ∧ St w0 w' (own 5 1 v' (bytesB false (encF W (chgsF W (R.map Prod.snd)) [])).length ((bytesB false (encF W (chgsF W (R.map Prod.snd)) [])).map bv) * F) := by
 have h3 := two_alloc h (.cells #[.int .i64 (W : Int), .int .i64 ph, .int .i64 pper, .int .i64 pwide, pv] 24) (.cells #[.bool big, .bool large, .bool tiled, .int .i64 ow, .int .i64 oh, .bool planar, .int .i64 2, .bool predict, .bool low, .bool two, .int .i64 every, .bool al, .bool fin, .int .i64 how] 28)
 have f6 := h3.cell 6 rfl
 obtain ⟨a0, c0, rfl⟩ := (hv w h).sub
 have HV := Lib.hid hv; have HR := Lib.hid hr; have HT := Lib.hid htab
 have HLL := Lib.hid hL
 obtain ⟨nr, hnr⟩ : ∃ nr, R.length = nr := ⟨_, rfl⟩
 rw [hnr] at hN HV ⊢
 have HNR := Lib.hid hnr
 have H3 := Lib.hid h3
 have hWI : ¬ (W : Int) < 1 := by omega
 obtain ⟨zz, hzz⟩ : ∃ zz, (encF W (chgsF W (R.map Prod.snd)) []) = zz := ⟨_, rfl⟩
 rw [hzz]
 have HZZ := Lib.hid hzz
 clear h hv hr hnr hL h3 htab hzz
 have T := elemRows
 go_enter Tryz.func18, Tryz.ntmps18
 go_wp2_with fail
 have H1 := Lib.hid (St.own_nil 79 1 (rowsP_nil H3.out))
 clear H3 f6
 generalize (World.alloc (World.alloc w _) _) = wz at *
 generalize w.heap.size = gp at *
 go_loopw [11, 54] (fun vo vi wr => ∃ (k : Nat) (R2 : List (Value × List Nat)) (ao : Option Addr) (co : Nat), k ≤ nr ∧ vi = .int .i64 k ∧ vo = .slice ao k co ∧ RowKit.Hid (R2.map Prod.snd = chgsF W ((R.take k).map Prod.snd) ∧ R2.length = k) ∧ St w0 wr (own 79 1 (.slice ao k co) k (R2.map Prod.fst) * (rowsP R2 * (blk (gp + 1) (.cells #[.bool big, .bool large, .bool tiled, .int .i64 ow, .int .i64 oh, .bool planar, .int .i64 2, .bool predict, .bool low, .bool two, .int .i64 every, .bool al, .bool fin, .int .i64 how] 28) * (blk gp (.cells #[.int .i64 (W : Int), .int .i64 ph, .int .i64 pper, .int .i64 pwide, pv] 24) * F))))) (fun _ vi _ => nr - (intOf vi).toNat)
 case atStart => exact ⟨0, [], none, 0, Nat.zero_le _, rfl, rfl, Lib.hid ⟨rfl, rfl⟩, H1.out⟩
 case round =>
  clear H1
  obtain ⟨k, R2, ao, co, hk, rfl, rfl, hQ, hst⟩ := hrel
  by_cases hkn : k < nr
  ·have hkI : (k : Int) < nr := by omega
   have hkR : k < R.length := by rw [HNR.out]; exact hkn
   obtain ⟨x, hx⟩ : ∃ x, R[k]? = some x := ⟨R[k], List.getElem?_eq_getElem _⟩
   obtain ⟨b, off, rfl, hc⟩ := (HV.out _ hst.right.right.right.right).at_ hkn
   rw [List.getElem?_map, hx] at hc
   obtain ⟨vx, X⟩ := x
   have hRX := fun w h => HR.out w h _ (List.mem_of_getElem? hx)
   simp only [Option.map_some] at hc
   have hXl := HLL.out _ (List.mem_of_getElem? hx)
   have c0w := hst.right.right.right.cell 0 rfl
   have HX := Lib.hid (runsOf_any hst (bs := X) (v := vx) (fun w h => hRX w h.right.right.right.right) (Nat.le_trans hXl.2 (by decide)) (width := W) (by omega) hXl.1)
   have HTK := Lib.hid (show chgsF W ((R.take (k + 1)).map Prod.snd) = chgsF W ((R.take k).map Prod.snd) ++ [chg ((bitsL false X).take W)] by rw [take_snoc hx, List.map_append, chgsF, List.map_append]; rfl)
   clear hx hst hRX hXl
   generalize chg ((bitsL false X).take W) = C at *
   obtain ⟨cl, hcl⟩ : ∃ n, C.length = n := ⟨_, rfl⟩
   have HCL := Lib.hid hcl
   go_wp2_with (first | (at_builtin; apply stop) | (go_at_call 43; refine HX.out.mono ?_; rintro e w2 ⟨v2, rfl, h2⟩; obtain ⟨a2, c2, rfl⟩ := h2.reads.sub; rw [hcl] at h2; have H2 := Lib.hid h2; clear h2 hcl HX c0w))
   rw [HCL.out]
   have h4 := H2.out.perm (show _ = own 79 1 (.slice ao k co) k (R2.map Prod.fst) * (own 3 1 (.slice a2 cl c2) cl (C.map nv) * (rowsP R2 * (blk (gp + 1) (.cells #[.bool big, .bool large, .bool tiled, .int .i64 ow, .int .i64 oh, .bool planar, .int .i64 2, .bool predict, .bool low, .bool two, .int .i64 every, .bool al, .bool fin, .int .i64 how] 28) * (blk gp (.cells #[.int .i64 (W : Int), .int .i64 ph, .int .i64 pper, .int .i64 pwide, pv] 24) * F)))) by ac_rfl)
   refine on (wpList_append_sep T rfl _ _ rfl rfl (h4.drop_alloc (.cells #[.slice a2 cl c2] 79)) rfl (reads_rowI24 _ (.slice a2 cl c2)) (by intro u hu; rw [List.mem_singleton.1 hu]; rfl) (by unfold maxLen; omega) (by omega) ?_)
   intro v7 w7 h7 _
   have h7 : St w0 w7 (own 79 1 v7 (k + 1) ((R2 ++ [(Value.slice a2 cl c2, C)]).map Prod.fst) * (rowsP (R2 ++ [(Value.slice a2 cl c2, C)]) * (blk (gp + 1) (.cells #[.bool big, .bool large, .bool tiled, .int .i64 ow, .int .i64 oh, .bool planar, .int .i64 2, .bool predict, .bool low, .bool two, .int .i64 every, .bool al, .bool fin, .int .i64 how] 28) * (blk gp (.cells #[.int .i64 (W : Int), .int .i64 ph, .int .i64 pper, .int .i64 pwide, pv] 24) * F)))) := by
    rw [rowsP_snoc, List.map_append]
    simp only [HCL.out]
    exact h7.perm (by simp only [List.map_cons, List.map_nil]; ac_rfl)
   have HQ2 := Lib.hid (show (R2 ++ [(Value.slice a2 cl c2, C)]).map Prod.snd = chgsF W ((R.take (k + 1)).map Prod.snd) ∧ (R2 ++ [(Value.slice a2 cl c2, C)]).length = k + 1 from
    ⟨by rw [HTK.out, List.map_append, hQ.out.1]; rfl, by rw [List.length_append, hQ.out.2]; rfl⟩)
   generalize R2 ++ [(Value.slice a2 cl c2, C)] = R3 at *
   obtain ⟨a7, c7, rfl⟩ := h7.reads.sub
   have H7 := Lib.hid h7
   clear h7 h4 H2 hQ HTK
   go_wp2_with fail
   exact ⟨⟨k + 1, R3, a7, c7, by omega, by go_num, rfl, HQ2, H7.out⟩, by simp [intOf]; omega⟩
  ·obtain rfl : k = nr := by omega
   have c0w := hst.right.right.right.cell 0 rfl
   have c6w := hst.right.right.cell 6 rfl
   have hq := hQ.out
   rw [← HNR.out, List.take_length] at hq
   have hro : ∀ x ∈ R2, RowOk W x.2 := by
    intro x hx
    have hm : x.2 ∈ R2.map Prod.snd := List.mem_map_of_mem hx
    rw [hq.1, chgsF, List.mem_map] at hm
    obtain ⟨X, hX, e⟩ := hm
    obtain ⟨y, hy, rfl⟩ := List.mem_map.1 hX
    rw [← e]
    have hl8 := HLL.out y hy
    exact rowOk_chg24 (by rw [List.length_take, length_bitsL]; omega) hw
   have HE := Lib.hid (encode_any hst (fun w h => HT.out w h.right.right.right.right) (R := R2) (by rw [hq.2, HNR.out]; exact Stb.of_own) (fun w h x hx => rowsP_reads R2 _ h.right x hx) h1 (by omega) hro (by rw [hq.2, HNR.out]; exact (by omega)))
   rw [hq.1] at HE
   rw [← length_bytesB false] at HE
   rw [HZZ.out] at HE
   clear hst hro hq
   go_wp2_with (go_at_call 44; refine HE.out.mono ?_; rintro e w2 ⟨v2, rfl, h2⟩; have H2 := Lib.hid h2; clear h2 HE)
   go_ret2
   have h5 := H2.out.perm (show _ = own 79 1 (.slice ao k co) k (R2.map Prod.fst) * (rowsP R2 * (blk (gp + 1) (.cells #[.bool big, .bool large, .bool tiled, .int .i64 ow, .int .i64 oh, .bool planar, .int .i64 2, .bool predict, .bool low, .bool two, .int .i64 every, .bool al, .bool fin, .int .i64 how] 28) * (blk gp (.cells #[.int .i64 (W : Int), .int .i64 ph, .int .i64 pper, .int .i64 pwide, pv] 24) * (own 5 1 v2 _ _ * F)))) by ac_rfl)
   exact ⟨_, rfl, h5.right.right.right.right⟩
set_option maxHeartbeats 40000000 in
theorem tell_g3f {w0 w : World} {F : SProp} (h : St w0 w F) (htab : Tab w0 F) {R : List (Value × List UInt8)} {v : Value} (hv : Stb w0 F (fun w => Reads w 1 v R.length (R.map Prod.fst))) (hr : Stb w0 F (fun w => ∀ x ∈ R, Reads w 1 x.1 x.2.length (x.2.map bv))) (hN : R.length ≤ 300) {W : Nat} (h1 : 1 ≤ W) (hw : W ≤ 400) (hL : ∀ x ∈ R, (W + 7) / 8 ≤ x.2.length ∧ x.2.length ≤ 1000000) {big large tiled planar predict low two al fin : Bool} {ow oh every how ph pper pwide : Int} {pv : Value} :
  Calls Tryz.prog 18 #[v, .agg #[.int .i64 (W : Int), .int .i64 ph, .int .i64 pper, .int .i64 pwide, pv], .agg #[.bool big, .bool large, .bool tiled, .int .i64 ow, .int .i64 oh, .bool planar, .int .i64 3, .bool predict, .bool low, .bool false, .int .i64 every, .bool al, .bool fin, .int .i64 how]] w fun e w' => ∃ v', e = .returned (.tuple #[v', .int .i64 0]) ∧ St w0 w' (own 5 1 v' (bytesB false (enc3 W false al fin every (chgsF W (R.map Prod.snd)))).length ((bytesB false (enc3 W false al fin every (chgsF W (R.map Prod.snd)))).map bv) * F) := by
 have h3 := two_alloc h (.cells #[.int .i64 (W : Int), .int .i64 ph, .int .i64 pper, .int .i64 pwide, pv] 24) (.cells #[.bool big, .bool large, .bool tiled, .int .i64 ow, .int .i64 oh, .bool planar, .int .i64 3, .bool predict, .bool low, .bool false, .int .i64 every, .bool al, .bool fin, .int .i64 how] 28)
 have f6 := h3.cell 6 rfl
 obtain ⟨a0, c0, rfl⟩ := (hv w h).sub
 have HV := Lib.hid hv; have HR := Lib.hid hr; have HT := Lib.hid htab
 have HLL := Lib.hid hL
 obtain ⟨nr, hnr⟩ : ∃ nr, R.length = nr := ⟨_, rfl⟩
 rw [hnr] at hN HV ⊢
 have HNR := Lib.hid hnr
 have H3 := Lib.hid h3
 have hWI : ¬ (W : Int) < 1 := by omega
 obtain ⟨zz, hzz⟩ : ∃ zz, (enc3 W false al fin every (chgsF W (R.map Prod.snd))) = zz := ⟨_, rfl⟩
 rw [hzz]
 have HZZ := Lib.hid hzz
 clear h hv hr hnr hL h3 htab hzz
 have T := elemRows
 go_enter Tryz.func18, Tryz.ntmps18
 go_wp2_with fail
 have H1 := Lib.hid (St.own_nil 79 1 (rowsP_nil H3.out))
 clear H3 f6
 generalize (World.alloc (World.alloc w _) _) = wz at *
 generalize w.heap.size = gp at *
 go_loopw [11, 54] (fun vo vi wr => ∃ (k : Nat) (R2 : List (Value × List Nat)) (ao : Option Addr) (co : Nat), k ≤ nr ∧ vi = .int .i64 k ∧ vo = .slice ao k co ∧ RowKit.Hid (R2.map Prod.snd = chgsF W ((R.take k).map Prod.snd) ∧ R2.length = k) ∧ St w0 wr (own 79 1 (.slice ao k co) k (R2.map Prod.fst) * (rowsP R2 * (blk (gp + 1) (.cells #[.bool big, .bool large, .bool tiled, .int .i64 ow, .int .i64 oh, .bool planar, .int .i64 3, .bool predict, .bool low, .bool false, .int .i64 every, .bool al, .bool fin, .int .i64 how] 28) * (blk gp (.cells #[.int .i64 (W : Int), .int .i64 ph, .int .i64 pper, .int .i64 pwide, pv] 24) * F))))) (fun _ vi _ => nr - (intOf vi).toNat)
 case atStart => exact ⟨0, [], none, 0, Nat.zero_le _, rfl, rfl, Lib.hid ⟨rfl, rfl⟩, H1.out⟩
 case round =>
  clear H1
  obtain ⟨k, R2, ao, co, hk, rfl, rfl, hQ, hst⟩ := hrel
  by_cases hkn : k < nr
  ·have hkI : (k : Int) < nr := by omega
   have hkR : k < R.length := by rw [HNR.out]; exact hkn
   obtain ⟨x, hx⟩ : ∃ x, R[k]? = some x := ⟨R[k], List.getElem?_eq_getElem _⟩
   obtain ⟨b, off, rfl, hc⟩ := (HV.out _ hst.right.right.right.right).at_ hkn
   rw [List.getElem?_map, hx] at hc
   obtain ⟨vx, X⟩ := x
   have hRX := fun w h => HR.out w h _ (List.mem_of_getElem? hx)
   simp only [Option.map_some] at hc
   have hXl := HLL.out _ (List.mem_of_getElem? hx)
   have c0w := hst.right.right.right.cell 0 rfl
   have HX := Lib.hid (runsOf_any hst (bs := X) (v := vx) (fun w h => hRX w h.right.right.right.right) (Nat.le_trans hXl.2 (by decide)) (width := W) (by omega) hXl.1)
   have HTK := Lib.hid (show chgsF W ((R.take (k + 1)).map Prod.snd) = chgsF W ((R.take k).map Prod.snd) ++ [chg ((bitsL false X).take W)] by rw [take_snoc hx, List.map_append, chgsF, List.map_append]; rfl)
   clear hx hst hRX hXl
   generalize chg ((bitsL false X).take W) = C at *
   obtain ⟨cl, hcl⟩ : ∃ n, C.length = n := ⟨_, rfl⟩
   have HCL := Lib.hid hcl
   go_wp2_with (first | (at_builtin; apply stop) | (go_at_call 43; refine HX.out.mono ?_; rintro e w2 ⟨v2, rfl, h2⟩; obtain ⟨a2, c2, rfl⟩ := h2.reads.sub; rw [hcl] at h2; have H2 := Lib.hid h2; clear h2 hcl HX c0w))
   rw [HCL.out]
   have h4 := H2.out.perm (show _ = own 79 1 (.slice ao k co) k (R2.map Prod.fst) * (own 3 1 (.slice a2 cl c2) cl (C.map nv) * (rowsP R2 * (blk (gp + 1) (.cells #[.bool big, .bool large, .bool tiled, .int .i64 ow, .int .i64 oh, .bool planar, .int .i64 3, .bool predict, .bool low, .bool false, .int .i64 every, .bool al, .bool fin, .int .i64 how] 28) * (blk gp (.cells #[.int .i64 (W : Int), .int .i64 ph, .int .i64 pper, .int .i64 pwide, pv] 24) * F)))) by ac_rfl)
   refine on (wpList_append_sep T rfl _ _ rfl rfl (h4.drop_alloc (.cells #[.slice a2 cl c2] 79)) rfl (reads_rowI24 _ (.slice a2 cl c2)) (by intro u hu; rw [List.mem_singleton.1 hu]; rfl) (by unfold maxLen; omega) (by omega) ?_)
   intro v7 w7 h7 _
   have h7 : St w0 w7 (own 79 1 v7 (k + 1) ((R2 ++ [(Value.slice a2 cl c2, C)]).map Prod.fst) * (rowsP (R2 ++ [(Value.slice a2 cl c2, C)]) * (blk (gp + 1) (.cells #[.bool big, .bool large, .bool tiled, .int .i64 ow, .int .i64 oh, .bool planar, .int .i64 3, .bool predict, .bool low, .bool false, .int .i64 every, .bool al, .bool fin, .int .i64 how] 28) * (blk gp (.cells #[.int .i64 (W : Int), .int .i64 ph, .int .i64 pper, .int .i64 pwide, pv] 24) * F)))) := by
    rw [rowsP_snoc, List.map_append]
    simp only [HCL.out]
    exact h7.perm (by simp only [List.map_cons, List.map_nil]; ac_rfl)
   have HQ2 := Lib.hid (show (R2 ++ [(Value.slice a2 cl c2, C)]).map Prod.snd = chgsF W ((R.take (k + 1)).map Prod.snd) ∧ (R2 ++ [(Value.slice a2 cl c2, C)]).length = k + 1 from
    ⟨by rw [HTK.out, List.map_append, hQ.out.1]; rfl, by rw [List.length_append, hQ.out.2]; rfl⟩)
   generalize R2 ++ [(Value.slice a2 cl c2, C)] = R3 at *
   obtain ⟨a7, c7, rfl⟩ := h7.reads.sub
   have H7 := Lib.hid h7
   clear h7 h4 H2 hQ HTK
   go_wp2_with fail
   exact ⟨⟨k + 1, R3, a7, c7, by omega, by go_num, rfl, HQ2, H7.out⟩, by simp [intOf]; omega⟩
  ·obtain rfl : k = nr := by omega
   have c0w := hst.right.right.right.cell 0 rfl
   have c6w := hst.right.right.cell 6 rfl
   have hq := hQ.out
   rw [← HNR.out, List.take_length] at hq
   have hro : ∀ x ∈ R2, RowOk W x.2 := by
    intro x hx
    have hm : x.2 ∈ R2.map Prod.snd := List.mem_map_of_mem hx
    rw [hq.1, chgsF, List.mem_map] at hm
    obtain ⟨X, hX, e⟩ := hm
    obtain ⟨y, hy, rfl⟩ := List.mem_map.1 hX
    rw [← e]
    have hl8 := HLL.out y hy
    exact rowOk_chg24 (by rw [List.length_take, length_bitsL]; omega) hw
   have c9w := hst.right.right.cell 9 rfl
   have c10w := hst.right.right.cell 10 rfl
   have c11w := hst.right.right.cell 11 rfl
   have c12w := hst.right.right.cell 12 rfl
   have HE := Lib.hid (encode15_false hst (fun w h => HT.out w h.right.right.right.right) (R := R2) (by rw [hq.2, HNR.out]; exact Stb.of_own) (fun w h x hx => rowsP_reads R2 _ h.right x hx) h1 hw hro (by rw [hq.2, HNR.out]; exact hN) al fin every)
   rw [hq.1] at HE
   rw [HZZ.out] at HE
   clear hst hro hq
   go_wp2_with (go_at_call 45; refine HE.out.mono ?_; rintro e w2 ⟨v2, rfl, h2⟩; have H2 := Lib.hid h2; clear h2 HE)
   go_ret2
   have h5 := H2.out.perm (show _ = own 79 1 (.slice ao k co) k (R2.map Prod.fst) * (rowsP R2 * (blk (gp + 1) (.cells #[.bool big, .bool large, .bool tiled, .int .i64 ow, .int .i64 oh, .bool planar, .int .i64 3, .bool predict, .bool low, .bool false, .int .i64 every, .bool al, .bool fin, .int .i64 how] 28) * (blk gp (.cells #[.int .i64 (W : Int), .int .i64 ph, .int .i64 pper, .int .i64 pwide, pv] 24) * (own 5 1 v2 _ _ * F)))) by ac_rfl)
   exact ⟨_, rfl, h5.right.right.right.right⟩
set_option maxHeartbeats 40000000 in
theorem tell_g3t {w0 w : World} {F : SProp} (h : St w0 w F) (htab : Tab w0 F) {R : List (Value × List UInt8)} {v : Value} (hv : Stb w0 F (fun w => Reads w 1 v R.length (R.map Prod.fst))) (hr : Stb w0 F (fun w => ∀ x ∈ R, Reads w 1 x.1 x.2.length (x.2.map bv))) (hN : R.length ≤ 300) {W : Nat} (h1 : 1 ≤ W) (hw : W ≤ 400) (hL : ∀ x ∈ R, (W + 7) / 8 ≤ x.2.length ∧ x.2.length ≤ 1000000) {big large tiled planar predict low two al fin : Bool} {ow oh every how ph pper pwide : Int} {pv : Value} (hev : 1 ≤ every) :
  Calls Tryz.prog 18 #[v, .agg #[.int .i64 (W : Int), .int .i64 ph, .int .i64 pper, .int .i64 pwide, pv], .agg #[.bool big, .bool large, .bool tiled, .int .i64 ow, .int .i64 oh, .bool planar, .int .i64 3, .bool predict, .bool low, .bool true, .int .i64 every, .bool al, .bool fin, .int .i64 how]] w fun e w' => ∃ v', e = .returned (.tuple #[v', .int .i64 0]) ∧ St w0 w' (own 5 1 v' (bytesB false (enc3 W true al fin every (chgsF W (R.map Prod.snd)))).length ((bytesB false (enc3 W true al fin every (chgsF W (R.map Prod.snd)))).map bv) * F) := by
 have h3 := two_alloc h (.cells #[.int .i64 (W : Int), .int .i64 ph, .int .i64 pper, .int .i64 pwide, pv] 24) (.cells #[.bool big, .bool large, .bool tiled, .int .i64 ow, .int .i64 oh, .bool planar, .int .i64 3, .bool predict, .bool low, .bool true, .int .i64 every, .bool al, .bool fin, .int .i64 how] 28)
 have f6 := h3.cell 6 rfl
 obtain ⟨a0, c0, rfl⟩ := (hv w h).sub
 have HV := Lib.hid hv; have HR := Lib.hid hr; have HT := Lib.hid htab
 have HLL := Lib.hid hL
 obtain ⟨nr, hnr⟩ : ∃ nr, R.length = nr := ⟨_, rfl⟩
 rw [hnr] at hN HV ⊢
 have HNR := Lib.hid hnr
 have H3 := Lib.hid h3
 have hWI : ¬ (W : Int) < 1 := by omega
 obtain ⟨zz, hzz⟩ : ∃ zz, (enc3 W true al fin every (chgsF W (R.map Prod.snd))) = zz := ⟨_, rfl⟩
 rw [hzz]
 have HZZ := Lib.hid hzz
 clear h hv hr hnr hL h3 htab hzz
 have T := elemRows
 go_enter Tryz.func18, Tryz.ntmps18
 go_wp2_with fail
 have H1 := Lib.hid (St.own_nil 79 1 (rowsP_nil H3.out))
 clear H3 f6
 generalize (World.alloc (World.alloc w _) _) = wz at *
 generalize w.heap.size = gp at *
 go_loopw [11, 54] (fun vo vi wr => ∃ (k : Nat) (R2 : List (Value × List Nat)) (ao : Option Addr) (co : Nat), k ≤ nr ∧ vi = .int .i64 k ∧ vo = .slice ao k co ∧ RowKit.Hid (R2.map Prod.snd = chgsF W ((R.take k).map Prod.snd) ∧ R2.length = k) ∧ St w0 wr (own 79 1 (.slice ao k co) k (R2.map Prod.fst) * (rowsP R2 * (blk (gp + 1) (.cells #[.bool big, .bool large, .bool tiled, .int .i64 ow, .int .i64 oh, .bool planar, .int .i64 3, .bool predict, .bool low, .bool true, .int .i64 every, .bool al, .bool fin, .int .i64 how] 28) * (blk gp (.cells #[.int .i64 (W : Int), .int .i64 ph, .int .i64 pper, .int .i64 pwide, pv] 24) * F))))) (fun _ vi _ => nr - (intOf vi).toNat)
 case atStart => exact ⟨0, [], none, 0, Nat.zero_le _, rfl, rfl, Lib.hid ⟨rfl, rfl⟩, H1.out⟩
 case round =>
  clear H1
  obtain ⟨k, R2, ao, co, hk, rfl, rfl, hQ, hst⟩ := hrel
  by_cases hkn : k < nr
  ·have hkI : (k : Int) < nr := by omega
   have hkR : k < R.length := by rw [HNR.out]; exact hkn
   obtain ⟨x, hx⟩ : ∃ x, R[k]? = some x := ⟨R[k], List.getElem?_eq_getElem _⟩
   obtain ⟨b, off, rfl, hc⟩ := (HV.out _ hst.right.right.right.right).at_ hkn
   rw [List.getElem?_map, hx] at hc
   obtain ⟨vx, X⟩ := x
   have hRX := fun w h => HR.out w h _ (List.mem_of_getElem? hx)
   simp only [Option.map_some] at hc
   have hXl := HLL.out _ (List.mem_of_getElem? hx)
   have c0w := hst.right.right.right.cell 0 rfl
   have HX := Lib.hid (runsOf_any hst (bs := X) (v := vx) (fun w h => hRX w h.right.right.right.right) (Nat.le_trans hXl.2 (by decide)) (width := W) (by omega) hXl.1)
   have HTK := Lib.hid (show chgsF W ((R.take (k + 1)).map Prod.snd) = chgsF W ((R.take k).map Prod.snd) ++ [chg ((bitsL false X).take W)] by rw [take_snoc hx, List.map_append, chgsF, List.map_append]; rfl)
   clear hx hst hRX hXl
   generalize chg ((bitsL false X).take W) = C at *
   obtain ⟨cl, hcl⟩ : ∃ n, C.length = n := ⟨_, rfl⟩
   have HCL := Lib.hid hcl
   go_wp2_with (first | (at_builtin; apply stop) | (go_at_call 43; refine HX.out.mono ?_; rintro e w2 ⟨v2, rfl, h2⟩; obtain ⟨a2, c2, rfl⟩ := h2.reads.sub; rw [hcl] at h2; have H2 := Lib.hid h2; clear h2 hcl HX c0w))
   rw [HCL.out]
   have h4 := H2.out.perm (show _ = own 79 1 (.slice ao k co) k (R2.map Prod.fst) * (own 3 1 (.slice a2 cl c2) cl (C.map nv) * (rowsP R2 * (blk (gp + 1) (.cells #[.bool big, .bool large, .bool tiled, .int .i64 ow, .int .i64 oh, .bool planar, .int .i64 3, .bool predict, .bool low, .bool true, .int .i64 every, .bool al, .bool fin, .int .i64 how] 28) * (blk gp (.cells #[.int .i64 (W : Int), .int .i64 ph, .int .i64 pper, .int .i64 pwide, pv] 24) * F)))) by ac_rfl)
   refine on (wpList_append_sep T rfl _ _ rfl rfl (h4.drop_alloc (.cells #[.slice a2 cl c2] 79)) rfl (reads_rowI24 _ (.slice a2 cl c2)) (by intro u hu; rw [List.mem_singleton.1 hu]; rfl) (by unfold maxLen; omega) (by omega) ?_)
   intro v7 w7 h7 _
   have h7 : St w0 w7 (own 79 1 v7 (k + 1) ((R2 ++ [(Value.slice a2 cl c2, C)]).map Prod.fst) * (rowsP (R2 ++ [(Value.slice a2 cl c2, C)]) * (blk (gp + 1) (.cells #[.bool big, .bool large, .bool tiled, .int .i64 ow, .int .i64 oh, .bool planar, .int .i64 3, .bool predict, .bool low, .bool true, .int .i64 every, .bool al, .bool fin, .int .i64 how] 28) * (blk gp (.cells #[.int .i64 (W : Int), .int .i64 ph, .int .i64 pper, .int .i64 pwide, pv] 24) * F)))) := by
    rw [rowsP_snoc, List.map_append]
    simp only [HCL.out]
    exact h7.perm (by simp only [List.map_cons, List.map_nil]; ac_rfl)
   have HQ2 := Lib.hid (show (R2 ++ [(Value.slice a2 cl c2, C)]).map Prod.snd = chgsF W ((R.take (k + 1)).map Prod.snd) ∧ (R2 ++ [(Value.slice a2 cl c2, C)]).length = k + 1 from
    ⟨by rw [HTK.out, List.map_append, hQ.out.1]; rfl, by rw [List.length_append, hQ.out.2]; rfl⟩)
   generalize R2 ++ [(Value.slice a2 cl c2, C)] = R3 at *
   obtain ⟨a7, c7, rfl⟩ := h7.reads.sub
   have H7 := Lib.hid h7
   clear h7 h4 H2 hQ HTK
   go_wp2_with fail
   exact ⟨⟨k + 1, R3, a7, c7, by omega, by go_num, rfl, HQ2, H7.out⟩, by simp [intOf]; omega⟩
  ·obtain rfl : k = nr := by omega
   have c0w := hst.right.right.right.cell 0 rfl
   have c6w := hst.right.right.cell 6 rfl
   have hq := hQ.out
   rw [← HNR.out, List.take_length] at hq
   have hro : ∀ x ∈ R2, RowOk W x.2 := by
    intro x hx
    have hm : x.2 ∈ R2.map Prod.snd := List.mem_map_of_mem hx
    rw [hq.1, chgsF, List.mem_map] at hm
    obtain ⟨X, hX, e⟩ := hm
    obtain ⟨y, hy, rfl⟩ := List.mem_map.1 hX
    rw [← e]
    have hl8 := HLL.out y hy
    exact rowOk_chg24 (by rw [List.length_take, length_bitsL]; omega) hw
   have c9w := hst.right.right.cell 9 rfl
   have c10w := hst.right.right.cell 10 rfl
   have c11w := hst.right.right.cell 11 rfl
   have c12w := hst.right.right.cell 12 rfl
   have HE := Lib.hid (encode15_true hst (fun w h => HT.out w h.right.right.right.right) (R := R2) (by rw [hq.2, HNR.out]; exact Stb.of_own) (fun w h x hx => rowsP_reads R2 _ h.right x hx) h1 hw hro (by rw [hq.2, HNR.out]; exact hN) al fin every hev)
   rw [hq.1] at HE
   rw [HZZ.out] at HE
   clear hst hro hq
   go_wp2_with (go_at_call 45; refine HE.out.mono ?_; rintro e w2 ⟨v2, rfl, h2⟩; have H2 := Lib.hid h2; clear h2 HE)
   go_ret2
   have h5 := H2.out.perm (show _ = own 79 1 (.slice ao k co) k (R2.map Prod.fst) * (rowsP R2 * (blk (gp + 1) (.cells #[.bool big, .bool large, .bool tiled, .int .i64 ow, .int .i64 oh, .bool planar, .int .i64 3, .bool predict, .bool low, .bool true, .int .i64 every, .bool al, .bool fin, .int .i64 how] 28) * (blk gp (.cells #[.int .i64 (W : Int), .int .i64 ph, .int .i64 pper, .int .i64 pwide, pv] 24) * (own 5 1 v2 _ _ * F)))) by ac_rfl)
   exact ⟨_, rfl, h5.right.right.right.right⟩
set_option maxHeartbeats 40000000 in
theorem tell_g4 {w0 w : World} {F : SProp} (h : St w0 w F) (htab : Tab w0 F) {R : List (Value × List UInt8)} {v : Value} (hv : Stb w0 F (fun w => Reads w 1 v R.length (R.map Prod.fst))) (hr : Stb w0 F (fun w => ∀ x ∈ R, Reads w 1 x.1 x.2.length (x.2.map bv))) (hN : R.length ≤ 300) {W : Nat} (h1 : 1 ≤ W) (hw : W ≤ 400) (hL : ∀ x ∈ R, (W + 7) / 8 ≤ x.2.length ∧ x.2.length ≤ 1000000) {big large tiled planar predict low two al fin : Bool} {ow oh every how ph pper pwide : Int} {pv : Value} :
  Calls Tryz.prog 18 #[v, .agg #[.int .i64 (W : Int), .int .i64 ph, .int .i64 pper, .int .i64 pwide, pv], .agg #[.bool big, .bool large, .bool tiled, .int .i64 ow, .int .i64 oh, .bool planar, .int .i64 4, .bool predict, .bool low, .bool two, .int .i64 every, .bool al, .bool fin, .int .i64 how]] w fun e w' => ∃ v', e = .returned (.tuple #[v', .int .i64 0]) ∧ St w0 w' (own 5 1 v' (bytesB false (enc4 W (chgsF W (R.map Prod.snd)))).length ((bytesB false (enc4 W (chgsF W (R.map Prod.snd)))).map bv) * F) := by
 have h3 := two_alloc h (.cells #[.int .i64 (W : Int), .int .i64 ph, .int .i64 pper, .int .i64 pwide, pv] 24) (.cells #[.bool big, .bool large, .bool tiled, .int .i64 ow, .int .i64 oh, .bool planar, .int .i64 4, .bool predict, .bool low, .bool two, .int .i64 every, .bool al, .bool fin, .int .i64 how] 28)
 have f6 := h3.cell 6 rfl
 obtain ⟨a0, c0, rfl⟩ := (hv w h).sub
 have HV := Lib.hid hv; have HR := Lib.hid hr; have HT := Lib.hid htab
 have HLL := Lib.hid hL
 obtain ⟨nr, hnr⟩ : ∃ nr, R.length = nr := ⟨_, rfl⟩
 rw [hnr] at hN HV ⊢
 have HNR := Lib.hid hnr
 have H3 := Lib.hid h3
 have hWI : ¬ (W : Int) < 1 := by omega
 obtain ⟨zz, hzz⟩ : ∃ zz, (enc4 W (chgsF W (R.map Prod.snd))) = zz := ⟨_, rfl⟩
 rw [hzz]
 have HZZ := Lib.hid hzz
 clear h hv hr hnr hL h3 htab hzz
 have T := elemRows
 go_enter Tryz.func18, Tryz.ntmps18
 go_wp2_with fail
 have H1 := Lib.hid (St.own_nil 79 1 (rowsP_nil H3.out))
 clear H3 f6
 generalize (World.alloc (World.alloc w _) _) = wz at *
 generalize w.heap.size = gp at *
 go_loopw [11, 54] (fun vo vi wr => ∃ (k : Nat) (R2 : List (Value × List Nat)) (ao : Option Addr) (co : Nat), k ≤ nr ∧ vi = .int .i64 k ∧ vo = .slice ao k co ∧ RowKit.Hid (R2.map Prod.snd = chgsF W ((R.take k).map Prod.snd) ∧ R2.length = k) ∧ St w0 wr (own 79 1 (.slice ao k co) k (R2.map Prod.fst) * (rowsP R2 * (blk (gp + 1) (.cells #[.bool big, .bool large, .bool tiled, .int .i64 ow, .int .i64 oh, .bool planar, .int .i64 4, .bool predict, .bool low, .bool two, .int .i64 every, .bool al, .bool fin, .int .i64 how] 28) * (blk gp (.cells #[.int .i64 (W : Int), .int .i64 ph, .int .i64 pper, .int .i64 pwide, pv] 24) * F))))) (fun _ vi _ => nr - (intOf vi).toNat)
 case atStart => exact ⟨0, [], none, 0, Nat.zero_le _, rfl, rfl, Lib.hid ⟨rfl, rfl⟩, H1.out⟩
 case round =>
  clear H1
  obtain ⟨k, R2, ao, co, hk, rfl, rfl, hQ, hst⟩ := hrel
  by_cases hkn : k < nr
  ·have hkI : (k : Int) < nr := by omega
   have hkR : k < R.length := by rw [HNR.out]; exact hkn
   obtain ⟨x, hx⟩ : ∃ x, R[k]? = some x := ⟨R[k], List.getElem?_eq_getElem _⟩
   obtain ⟨b, off, rfl, hc⟩ := (HV.out _ hst.right.right.right.right).at_ hkn
   rw [List.getElem?_map, hx] at hc
   obtain ⟨vx, X⟩ := x
   have hRX := fun w h => HR.out w h _ (List.mem_of_getElem? hx)
   simp only [Option.map_some] at hc
   have hXl := HLL.out _ (List.mem_of_getElem? hx)
   have c0w := hst.right.right.right.cell 0 rfl
   have HX := Lib.hid (runsOf_any hst (bs := X) (v := vx) (fun w h => hRX w h.right.right.right.right) (Nat.le_trans hXl.2 (by decide)) (width := W) (by omega) hXl.1)
   have HTK := Lib.hid (show chgsF W ((R.take (k + 1)).map Prod.snd) = chgsF W ((R.take k).map Prod.snd) ++ [chg ((bitsL false X).take W)] by rw [take_snoc hx, List.map_append, chgsF, List.map_append]; rfl)
   clear hx hst hRX hXl
   generalize chg ((bitsL false X).take W) = C at *
   obtain ⟨cl, hcl⟩ : ∃ n, C.length = n := ⟨_, rfl⟩
   have HCL := Lib.hid hcl
   go_wp2_with (first | (at_builtin; apply stop) | (go_at_call 43; refine HX.out.mono ?_; rintro e w2 ⟨v2, rfl, h2⟩; obtain ⟨a2, c2, rfl⟩ := h2.reads.sub; rw [hcl] at h2; have H2 := Lib.hid h2; clear h2 hcl HX c0w))
   rw [HCL.out]
   have h4 := H2.out.perm (show _ = own 79 1 (.slice ao k co) k (R2.map Prod.fst) * (own 3 1 (.slice a2 cl c2) cl (C.map nv) * (rowsP R2 * (blk (gp + 1) (.cells #[.bool big, .bool large, .bool tiled, .int .i64 ow, .int .i64 oh, .bool planar, .int .i64 4, .bool predict, .bool low, .bool two, .int .i64 every, .bool al, .bool fin, .int .i64 how] 28) * (blk gp (.cells #[.int .i64 (W : Int), .int .i64 ph, .int .i64 pper, .int .i64 pwide, pv] 24) * F)))) by ac_rfl)
   refine on (wpList_append_sep T rfl _ _ rfl rfl (h4.drop_alloc (.cells #[.slice a2 cl c2] 79)) rfl (reads_rowI24 _ (.slice a2 cl c2)) (by intro u hu; rw [List.mem_singleton.1 hu]; rfl) (by unfold maxLen; omega) (by omega) ?_)
   intro v7 w7 h7 _
   have h7 : St w0 w7 (own 79 1 v7 (k + 1) ((R2 ++ [(Value.slice a2 cl c2, C)]).map Prod.fst) * (rowsP (R2 ++ [(Value.slice a2 cl c2, C)]) * (blk (gp + 1) (.cells #[.bool big, .bool large, .bool tiled, .int .i64 ow, .int .i64 oh, .bool planar, .int .i64 4, .bool predict, .bool low, .bool two, .int .i64 every, .bool al, .bool fin, .int .i64 how] 28) * (blk gp (.cells #[.int .i64 (W : Int), .int .i64 ph, .int .i64 pper, .int .i64 pwide, pv] 24) * F)))) := by
    rw [rowsP_snoc, List.map_append]
    simp only [HCL.out]
    exact h7.perm (by simp only [List.map_cons, List.map_nil]; ac_rfl)
   have HQ2 := Lib.hid (show (R2 ++ [(Value.slice a2 cl c2, C)]).map Prod.snd = chgsF W ((R.take (k + 1)).map Prod.snd) ∧ (R2 ++ [(Value.slice a2 cl c2, C)]).length = k + 1 from
    ⟨by rw [HTK.out, List.map_append, hQ.out.1]; rfl, by rw [List.length_append, hQ.out.2]; rfl⟩)
   generalize R2 ++ [(Value.slice a2 cl c2, C)] = R3 at *
   obtain ⟨a7, c7, rfl⟩ := h7.reads.sub
   have H7 := Lib.hid h7
   clear h7 h4 H2 hQ HTK
   go_wp2_with fail
   exact ⟨⟨k + 1, R3, a7, c7, by omega, by go_num, rfl, HQ2, H7.out⟩, by simp [intOf]; omega⟩
  ·obtain rfl : k = nr := by omega
   have c0w := hst.right.right.right.cell 0 rfl
   have c6w := hst.right.right.cell 6 rfl
   have hq := hQ.out
   rw [← HNR.out, List.take_length] at hq
   have hro : ∀ x ∈ R2, RowOk W x.2 := by
    intro x hx
    have hm : x.2 ∈ R2.map Prod.snd := List.mem_map_of_mem hx
    rw [hq.1, chgsF, List.mem_map] at hm
    obtain ⟨X, hX, e⟩ := hm
    obtain ⟨y, hy, rfl⟩ := List.mem_map.1 hX
    rw [← e]
    have hl8 := HLL.out y hy
    exact rowOk_chg24 (by rw [List.length_take, length_bitsL]; omega) hw
   have HE := Lib.hid (encode16_any hst (fun w h => HT.out w h.right.right.right.right) (R := R2) (by rw [hq.2, HNR.out]; exact Stb.of_own) (fun w h x hx => rowsP_reads R2 _ h.right x hx) h1 hw hro (by rw [hq.2, HNR.out]; exact hN))
   rw [hq.1] at HE
   rw [HZZ.out] at HE
   clear hst hro hq
   go_wp2_with (go_at_call 46; refine HE.out.mono ?_; rintro e w2 ⟨v2, rfl, h2⟩; have H2 := Lib.hid h2; clear h2 HE)
   go_ret2
   have h5 := H2.out.perm (show _ = own 79 1 (.slice ao k co) k (R2.map Prod.fst) * (rowsP R2 * (blk (gp + 1) (.cells #[.bool big, .bool large, .bool tiled, .int .i64 ow, .int .i64 oh, .bool planar, .int .i64 4, .bool predict, .bool low, .bool two, .int .i64 every, .bool al, .bool fin, .int .i64 how] 28) * (blk gp (.cells #[.int .i64 (W : Int), .int .i64 ph, .int .i64 pper, .int .i64 pwide, pv] 24) * (own 5 1 v2 _ _ * F)))) by ac_rfl)
   exact ⟨_, rfl, h5.right.right.right.right⟩
end Go.Proofs.YtboflbdniogcdaaGreatDoor
