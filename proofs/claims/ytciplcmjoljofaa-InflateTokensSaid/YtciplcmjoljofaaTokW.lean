/-
  Layer 8 (inflate): the document's telling of tokens (package mezzotintref08).
-/
import Derived.Test.YtciplcmjoljofaaTokN
import Derived.Test.YtciplcmjoljofaaRefW
import Derived.Test.YtciplcmjoljofaaInfR
import Derived.Test.YtciplcmjoljofaaRef02b
import Derived.Test.YtciplcmjoljofaaStructs
import Derived.RegionTactic
import Derived.BigRegion
namespace Go.Proofs.Ytciplcmjoljofaa
open Go.RowKit Go.Mz
set_option linter.unusedVariables false
set_option linter.unusedSimpArgs false
set_option maxRecDepth 100000

theorem fromsL_cond (far : Bool) : fromsL far = cond far distsB lensB := by cases far <;> rfl
theorem fromsL_le (far : Bool) : ∀ b ∈ fromsL far, b.1 ≤ 100000 ∧ b.2 ≤ 13 := by cases far <;> decide
theorem fromsL_len (far : Bool) : 1 ≤ (fromsL far).length ∧ (fromsL far).length ≤ 30 := by cases far <;> decide

set_option maxHeartbeats 40000000 in
theorem place_any {w0 w : World} {F : SProp} (h : St w0 w F) (far : Bool) (n : Nat) (hn : n ≤ 100000) (h0 : ((fromsL far).getD 0 (0, 0)).1 ≤ n) {j : Int} (hj : j = n) :
    Calls Try.prog 35 #[.int .i64 j, .bool far] w fun e w' => e = .returned (.tuple #[.int .i64 (plF far n : Nat), .string ⟨(tx (moreF far n)).toArray⟩]) ∧ St w0 w' F := by
  subst hj
  have HR := Lib.hid (show plF far n = plI (fromsL far) n ((fromsL far).length - 1) by rw [fromsL_cond]; rfl)
  have HM := Lib.hid (show ∀ k, plF far n = k → moreF far n = (wordB (n - ((fromsL far).getD k (0, 0)).1) ((fromsL far).getD k (0, 0)).2).reverse from fun k hk => by rw [moreF, frF, hk, fromsL_cond])
  have hok := fromsL_le far
  have hlen := fromsL_len far
  have C := rfroms_any h far
  generalize fromsL far = T at *
  have HC := Lib.hid C; clear C h
  go_enter Try.func35, Try.ntmps35
  go_wp2_with fail
  refine HC.out.mono ?_
  rintro e w2 ⟨va, vb, rfl, h2⟩
  obtain ⟨aa, ca, rfl⟩ := h2.reads.sub
  obtain ⟨ab, cb, rfl⟩ := h2.right.reads.sub
  obtain ⟨ga, rfl⟩ := own_at h2 (by omega)
  obtain ⟨gb, rfl⟩ := own_at h2.right (by omega)
  have hT0 : (T.length : Int) - 1 = ((T.length - 1 : Nat) : Int) := by omega
  have hT30 : T.length ≤ 30 := hlen.2
  have hT1 : 1 ≤ T.length := hlen.1
  have H2 := Lib.hid h2; clear h2 HC hlen
  go_upto_region 3 with (fail)
  go_wp2_with fail
  go_loopw [8] (fun vi wr => ∃ k : Nat, k < T.length ∧ vi = .int .i64 k ∧ plI T n k = plF far n ∧ St w0 wr (own 3 1 (.slice (some ⟨ga, 0, none⟩) T.length ca) T.length (nvs (T.map Prod.fst)) * (own 3 1 (.slice (some ⟨gb, 0, none⟩) T.length cb) T.length (nvs (T.map Prod.snd)) * F))) (fun vi _ => (intOf vi).toNat)
  case atStart => exact ⟨T.length - 1, by omega, rfl, HR.out.symm, H2.out⟩
  case round =>
    clear H2 hT0
    obtain ⟨k, hk, rfl, hpl, hst⟩ := hrel
    have hx := List.getElem?_eq_getElem hk
    obtain ⟨b1, b2⟩ := hok T[k] (List.getElem_mem _)
    have hg : T.getD k (0, 0) = T[k] := by rw [List.getD_eq_getElem?_getD, hx]; rfl
    have hy : (nvs (T.map Prod.fst))[k]? = some (nv T[k].1) := by rw [nvs, List.getElem?_map, List.getElem?_map, hx]; rfl
    have hz : (nvs (T.map Prod.snd))[k]? = some (nv T[k].2) := by rw [nvs, List.getElem?_map, List.getElem?_map, hx]; rfl
    have y0 := hst.own_cell hy
    have z0 := hst.right.own_cell hz
    have hM := HM.out k
    rw [hg] at hM
    have HST := Lib.hid hst; clear hst hy hz hx
    have hk30 : k < 30 := by omega
    have hkk : (k : Int) < T.length := by omega
    have hstep : ∀ m, k = m + 1 → n < T[k].1 → plI T n m = plI T n k := fun m hm hl => by
      subst hm
      rw [plI, if_neg]
      rw [hg]; omega
    have hstop : T[k].1 ≤ n → plI T n k = k := fun hl => by
      cases k with
      | zero => rfl
      | succ m => rw [plI, if_pos (by rw [hg]; exact hl)]
    have hzero : k = 0 → T[k].1 ≤ n := fun hk0 => by rw [← hg, hk0]; exact h0
    have HSTEP := Lib.hid hstep; have HSTOP := Lib.hid hstop; have HZERO := Lib.hid hzero; have HMM := Lib.hid hM
    clear hstep hstop hzero hM hg h0 hok HR HM
    generalize T[k].1 = f at *
    generalize T[k].2 = ex at *
    simp only [nv] at y0 z0
    by_cases hgt : n < f
    · obtain ⟨m, rfl⟩ : ∃ m, k = m + 1 := ⟨k - 1, by
        have : k ≠ 0 := fun h0 => by have := HZERO.out h0; omega
        omega⟩
      have hgt2 : (n : Int) < f := by omega
      have HPL := Lib.hid ((HSTEP.out m rfl hgt).trans hpl)
      clear hpl hgt z0
      have hm1 : ((m + 1 : Nat) : Int) - 1 = (m : Int) := by omega
      go_wp2_with fail
      exact ⟨⟨m, by omega, by first | rfl | go_num, HPL.out, HST.out⟩, by simp [intOf]⟩
    · have hgt2 : ¬ (n : Int) < f := by omega
      have hpk : plF far n = k := by rw [← hpl]; exact HSTOP.out (by omega)
      have HMR := Lib.hid (HMM.out hpk)
      have HPK := Lib.hid hpk
      clear hpk hpl
      have hsub : IntKind.i64.wrap ((n - f : Nat) : Int) = ((n - f : Nat) : Int) := IntWalk.i64_in _ (by omega)
      have hsubu : IntKind.u32.wrap ((n - f : Nat) : Int) = ((n - f : Nat) : Int) := IntWalk.u32_in _ (by omega)
      have hsub2 : ((n : Int) - f) = ((n - f : Nat) : Int) := by omega
      have HW := Lib.hid (fun (w : World) (h : St w0 w (own 3 1 (.slice (some ⟨ga, 0, none⟩) T.length ca) T.length (nvs (T.map Prod.fst)) * (own 3 1 (.slice (some ⟨gb, 0, none⟩) T.length cb) T.length (nvs (T.map Prod.snd)) * F))) => word_any (n - f) ex h (i := ((n - f : Nat) : Int)) (j := (ex : Int)) rfl rfl (by omega) (by omega))
      have HT := Lib.hid (fun (w : World) => turn_tx (l := wordB (n - f) ex) w (by simp; omega) rfl)
      generalize n - f = d at *
      go_upto_region 5 with (fail)
      go_region_with (first | (go_at_call 33; refine (HT.out _).mono ?_; rintro e w4 ⟨rfl, rfl⟩) | (go_at_call 44; refine (HW.out _ HST.out.drew).mono ?_; rintro e w3 ⟨rfl, h3⟩; have H3 := Lib.hid h3; clear h3))
      all_goals
        go_wp2_with fail
        go_ret2
        exact ⟨by rw [HPK.out, HMR.out]; rfl, H3.out.right.right⟩

def tokC (k : TokD) : List Value := [.int .u8 (k.lit.toNat : Int), .int .i64 k.len, .int .i64 k.dist]
def toksC (l : List TokD) : List Value := l.flatMap tokC
theorem toksC_get (l : List TokD) (k : Nat) (o : TokD) (h : l[k]? = some o) (j : Nat) (hj : j < 3) : (toksC l)[k * 3 + j]? = (tokC o)[j]? :=
  flat_get tokC 3 (fun _ => rfl) l k o h j hj
/-- The cells of element k. -/
theorem reads_tok {w : World} {a : Option Addr} {cap n : Nat} {l : List TokD} (h : Reads w 3 (.slice a n cap) n (toksC l)) {k : Nat} {o : TokD} (hk : l[k]? = some o) :
    ∃ b off, a = some ⟨b, off, none⟩ ∧ w.cell? ⟨b, off + k * 3, none⟩ = some (.int .u8 (o.lit.toNat : Int)) ∧ w.cell? ⟨b, off + k * 3 + 1, none⟩ = some (.int .i64 o.len) ∧ w.cell? ⟨b, off + k * 3 + 2, none⟩ = some (.int .i64 o.dist) := by
  obtain ⟨hl, ⟨e, rfl⟩ | ⟨⟨b, off, spot⟩, c, e, h1, h2, h3⟩⟩ := h
  · have : l = [] := by
      cases l with
      | nil => rfl
      | cons p l => simp [toksC, tokC] at hl
    simp [this] at hk
  · cases e
    have g := fun j hj => toksC_get l k o hk j hj
    have h00 : ∃ u, (toksC l)[0]? = some u := by
      have : k < l.length := (List.getElem?_eq_some_iff.1 hk).1
      cases l with
      | nil => simp at this
      | cons p l => exact ⟨_, rfl⟩
    obtain ⟨u0, hu0⟩ := h00
    have hspot : spot = none := by simpa [Addr.add] using World.cell?_spot (h3 0 u0 hu0)
    subst hspot
    refine ⟨b, off, rfl, ?_, ?_, ?_⟩
    · have := h3 _ _ ((g 0 (by decide)).trans rfl); rw [Addr.add_lit] at this; exact this
    · have := h3 _ _ ((g 1 (by decide)).trans rfl); rw [Addr.add_lit] at this; exact this
    · have := h3 _ _ ((g 2 (by decide)).trans rfl); rw [Addr.add_lit] at this; exact this

set_option maxHeartbeats 40000000 in
theorem right_any {w0 w : World} {F : SProp} (h : St w0 w F) (l : List TokD) (hl : l.length ≤ 200) {v : Value} (hv : Stb w0 F (fun w => Reads w 3 v l.length (toksC l))) :
    Calls Try.prog 17 #[v] w fun e w' => e = .returned (.tuple #[.string ⟨((rightF l []).getD []).toArray⟩, .bool (rightF l []).isSome]) ∧ St w0 w' F := by
  obtain ⟨a, cap, rfl⟩ := (hv w h).sub
  generalize hRES : rightF l [] = RES at *
  have HRES := Lib.hid hRES; clear hRES
  have H := Lib.hid h; clear h
  have HV := Lib.hid hv; clear hv
  go_enter Try.func17, Try.ntmps17
  go_wp2_with fail
  go_loopw [4, 9] (fun vo vi wr => ∃ (k : Nat) (out : List UInt8), k ≤ l.length ∧ vi = .int .i64 k ∧ vo = .string ⟨out.toArray⟩ ∧ out.length ≤ 258 * k ∧ rightF (l.drop k) out = RES ∧ St w0 wr F) (fun _ vi _ => l.length - (intOf vi).toNat)
  case atStart => exact ⟨0, [], by omega, rfl, rfl, by simp, HRES.out, H.out⟩
  case round =>
    clear H HRES
    obtain ⟨k, out, hk, rfl, rfl, hol, hres, hst⟩ := hrel
    have HRES := Lib.hid hres; clear hres
    by_cases hkn : k < l.length
    · have hx := List.getElem?_eq_getElem hkn
      obtain ⟨b, off, rfl, c0, c1, c2⟩ := reads_tok (HV.out _ hst) hx
      have HDR := Lib.hid (show l.drop k = l[k] :: l.drop (k + 1) from List.drop_eq_getElem_cons hkn)
      have hA := hst.alloc (.cells #[.int .u8 (l[k].lit.toNat : Int), .int .i64 l[k].len, .int .i64 l[k].dist] 71)
      have hkl : (k : Int) < l.length := by omega
      clear hx
      generalize l[k] = o at *
      have hc : o.lit.toNat < 256 := UInt8.toNat_lt _
      have HST := Lib.hid hst; clear hst
      go_upto_region 5 with (fail)
      clear c0 c1 c2
      generalize wr.heap.size = bt at *
      generalize wr.alloc (.cells #[.int .u8 (o.lit.toNat : Int), .int .i64 o.len, .int .i64 o.dist] 71) = W1 at *
      have t0 := hA.cell 0 rfl
      have t1 := hA.cell 1 rfl
      have t2 := hA.cell 2 rfl
      have HA := Lib.hid hA; clear hA
      have hsz : out.toArray.size = out.length := by simp
      by_cases h0 : o.len = 0
      · have HRX := Lib.hid (show rightF (l.drop (k + 1)) (out ++ [o.lit]) = RES by rw [← HRES.out, HDR.out, rightF, if_pos h0])
        clear hsz
        go_wp2_with (with_reducible (refine stop_conv 22 9 rfl ?_))
        refine on (wpList_b2s Try.underlying22 Try.underlying5 Try.underlying9 rfl rfl (n := 1) (reads_one W1 5 o.lit rfl) ?_)
        go_wp2_with fail
        refine ⟨⟨k + 1, out ++ [o.lit], by omega, by go_num, ?_, by simp; omega, HRX.out, HA.out.right.drop_alloc _⟩, by simp [intOf]; omega⟩
        exact (congrArg Value.string (ByteArray.mk_append_mk _ _))
      by_cases b1 : o.len < 3
      · have HRX := Lib.hid (show rightF (l.drop k) out = none by rw [HDR.out, rightF, if_neg h0, if_pos (by omega)])
        have HN := Lib.hid (show RES = none by rw [← HRES.out, HRX.out])
        go_wp2_with fail
        go_ret2
        exact ⟨by rw [HN.out]; rfl, HA.out.right⟩
      by_cases b2 : 258 < o.len
      · have HRX := Lib.hid (show rightF (l.drop k) out = none by rw [HDR.out, rightF, if_neg h0, if_pos (by omega)])
        have HN := Lib.hid (show RES = none by rw [← HRES.out, HRX.out])
        go_wp2_with fail
        go_ret2
        exact ⟨by rw [HN.out]; rfl, HA.out.right⟩
      by_cases b3 : o.dist < 1
      · have HRX := Lib.hid (show rightF (l.drop k) out = none by rw [HDR.out, rightF, if_neg h0, if_pos (by omega)])
        have HN := Lib.hid (show RES = none by rw [← HRES.out, HRX.out])
        go_wp2_with fail
        go_ret2
        exact ⟨by rw [HN.out]; rfl, HA.out.right⟩
      by_cases b4 : (out.length : Int) < o.dist
      · have HRX := Lib.hid (show rightF (l.drop k) out = none by rw [HDR.out, rightF, if_neg h0, if_pos (by omega)])
        have HN := Lib.hid (show RES = none by rw [← HRES.out, HRX.out])
        go_wp2_with fail
        go_ret2
        exact ⟨by rw [HN.out]; rfl, HA.out.right⟩
      by_cases b5 : 32768 < o.dist
      · have HRX := Lib.hid (show rightF (l.drop k) out = none by rw [HDR.out, rightF, if_neg h0, if_pos (by omega)])
        have HN := Lib.hid (show RES = none by rw [← HRES.out, HRX.out])
        go_wp2_with fail
        go_ret2
        exact ⟨by rw [HN.out]; rfl, HA.out.right⟩
      by_cases b6 : 2000 < (out.length : Int)
      · have HRX := Lib.hid (show rightF (l.drop k) out = none by rw [HDR.out, rightF, if_neg h0, if_pos (by omega)])
        have HN := Lib.hid (show RES = none by rw [← HRES.out, HRX.out])
        go_wp2_with fail
        go_ret2
        exact ⟨by rw [HN.out]; rfl, HA.out.right⟩
      obtain ⟨n, hn⟩ : ∃ n : Nat, o.len = n := ⟨o.len.toNat, by omega⟩
      obtain ⟨d, hd⟩ : ∃ d : Nat, o.dist = d := ⟨o.dist.toNat, by omega⟩
      have HRX := Lib.hid (show rightF (l.drop (k + 1)) (copyF d n out) = RES by
        rw [← HRES.out, HDR.out, rightF, if_neg h0, if_neg (by omega), hn, hd]; rfl)
      rw [hn, hd] at HA
      rw [hn] at t1
      rw [hd] at t2
      rw [hn] at b1 b2 h0
      rw [hd] at b3 b4 b5
      have hn258 : n ≤ 258 := by omega
      have hd1 : 1 ≤ d := by omega
      have hdo : d ≤ out.length := by omega
      clear HRES HDR hn hd HST hsz
      go_upto_region 9 with (fail)
      clear t0 t1 t2
      have t1 := HA.out.cell 1 rfl
      go_wp2_with fail
      clear t1
      go_loopw [4, 54] (fun vo vi wr => ∃ j : Nat, j ≤ n ∧ vi = .int .i64 j ∧ vo = .string ⟨(copyF d j out).toArray⟩ ∧ St w0 wr (blk bt (.cells #[.int .u8 (o.lit.toNat : Int), .int .i64 (n : Int), .int .i64 (d : Int)] 71) * F)) (fun _ vi _ => n - (intOf vi).toNat)
      case atStart => exact ⟨0, by omega, rfl, rfl, HA.out⟩
      case round =>
        clear HA
        obtain ⟨j, hj, rfl, rfl, hst⟩ := hrel
        have hcl := copyF_len d j out
        by_cases hjn : j < n
        · have hjn2 : (j : Int) < n := by omega
          have t2 := hst.cell 2 rfl
          have HST := Lib.hid hst; clear hst
          have HSN := Lib.hid (copyF_snoc d j out)
          generalize copyF d j out = q at *
          have hql : q.length ≤ 100000 := by omega
          have hqd : d ≤ q.length := by omega
          have hext : ByteArray.extract ⟨q.toArray⟩ (q.length - d) (q.length - d + 1) = ⟨#[q.getD (q.length - d) 0]⟩ := by
            rw [ByteArray.extract_mk, Nat.add_sub_cancel_left, List.drop_eq_getElem_cons (by omega), List.getD_eq_getElem?_getD, List.getElem?_eq_getElem (show q.length - d < q.length by omega)]
            rfl
          have hs1 : (q.length : Int) - d = ((q.length - d : Nat) : Int) := by omega
          have hs2 : q.length - d < q.length := by omega
          have HCL := Lib.hid hcl; clear hcl
          obtain ⟨m1, hm1⟩ : ∃ m1, m1 = q.length - d + 1 := ⟨_, rfl⟩
          rw [← hm1] at hext
          have HEXT := Lib.hid hext; clear hext
          have hs3 : ((q.length - d : Nat) : Int) + 1 = (m1 : Int) := by omega
          have hs4 : (m1 : Int) ≤ q.length := by omega
          have hs6 : ((q.length - d : Nat) : Int) ≤ m1 := by omega
          have hs7 : q.length - d ≤ m1 := by omega
          have hs8 : m1 ≤ q.length := by omega
          clear hm1
          have hs5 : q.toArray.size = q.length := by simp
          generalize q.length - d = m at *
          go_wp2_with fail
          refine ⟨⟨j + 1, by omega, by go_num, ?_, HST.out⟩, by simp [intOf]; omega⟩
          rw [HSN.out]
          exact congrArg Value.string (by rw [HEXT.out]; exact ByteArray.mk_append_mk _ _)
        · obtain rfl : j = n := by omega
          have HST := Lib.hid hst; clear hst
          go_wp2_with fail
          exact ⟨⟨k + 1, copyF d j out, by omega, by go_num, rfl, by omega, HRX.out, HST.out.right⟩, by simp [intOf]; omega⟩
    · obtain rfl : k = l.length := by omega
      have HRX := Lib.hid (show RES = some out by rw [← HRES.out, List.drop_length, rightF])
      have HST := Lib.hid hst; clear hst
      go_wp2_with fail
      go_ret2
      exact ⟨by rw [HRX.out]; rfl, HST.out⟩
#print axioms right_any
end Go.Proofs.Ytciplcmjoljofaa
