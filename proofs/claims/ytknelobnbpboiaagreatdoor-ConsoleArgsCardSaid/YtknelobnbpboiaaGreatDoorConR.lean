/-
  Layer 28 (console): the law ConsoleArgs, walked.
-/
import Derived.Test.YtknelobnbpboiaaGreatDoorConQ
import Derived.Test.YtknelobnbpboiaaGreatDoorSep2
import Derived.Lib.IndexLaws
namespace Go.Proofs.YtknelobnbpboiaaGreatDoor
open Go.RowKit Go.Mz
set_option linter.unusedVariables false
set_option linter.unusedSimpArgs false
set_option maxRecDepth 100000

theorem run_b2s {P : Program} {w : World} {src dst e : TypeId} (hs : P.underlying src = some (.slice e)) (he : P.underlying e = some (.int .u8)) (hd : P.underlying dst = some .string)
    {v : Value} {n : Nat} {bs : List UInt8} (hr : Reads w 1 v n (bs.map bC)) : (convert src dst v).run P w = .ok (.string ⟨bs.toArray⟩) w := by
  obtain ⟨hl, ⟨rfl, rfl⟩ | ⟨x, cap, rfl, h1, h2, h3⟩⟩ := hr
  · have hb : bs = [] := List.eq_nil_of_length_eq_zero (by simpa using hl)
    subst hb
    exact run_convert_bytes_nil w src e hs he 0 0 dst hd
  · have hn : bs.length = n := by simpa using hl
    subst hn
    exact run_convert_bytes_back w src dst e x cap bs hs he hd fun j hj => h3 j _ (by simp [hj, bC])

theorem index_no {l : List UInt8} {c : UInt8} (h : ∀ k : Nat, l[k]? ≠ some c) : Lib.indexByte l c = -1 := by
  by_cases e : Lib.indexByte l c = -1
  · exact e
  · have hg := Lib.indexByte_ge l c
    have := (Lib.indexByte_some (l := l) (c := c) (o := (Lib.indexByte l c).toNat) (by omega)).1
    exact absurd this (h _)

theorem size_of (x : Int) : ∃ n : Nat, wrap64 (16381 + wrap64 ((IntKind.u64.wrap x).tmod 6)) = (n : Int) ∧ 16381 ≤ n ∧ n ≤ 16386 := by
  have hy : 0 ≤ IntKind.u64.wrap x := Int.emod_nonneg _ (by decide)
  obtain ⟨y, hy⟩ := Int.eq_ofNat_of_zero_le hy
  rw [show (IntKind.u64.wrap x) = (y : Int) from hy]
  obtain ⟨z, hz, hz6⟩ : ∃ z : Nat, ((y : Int).tmod 6) = (z : Int) ∧ z < 6 := ⟨y % 6, rfl, Nat.mod_lt _ (by decide)⟩
  have w : ∀ z : Int, 0 ≤ z → z ≤ 20000 → wrap64 z = z := fun z h1 h2 => by unfold wrap64; omega
  rw [hz, w (z : Int) (by omega) (by omega), w (16381 + (z : Int)) (by omega) (by omega)]
  exact ⟨16381 + z, by omega, by omega, by omega⟩

set_option maxHeartbeats 8000000 in
theorem law_any {w0 w : World} {mx : Int} {F : SProp} (h : St w0 w F) (hM : ∀ w', St w0 w' F → w'.cell? ⟨2, 0, none⟩ = some (.int .i64 mx)) (x ci : Int) (hx1 : -9223372036854775808 ≤ x) (hx2 : x ≤ 9223372036854775807) (hc0 : 0 ≤ ci) (hc1 : ci ≤ 255) :
    Calls Tryz.prog 3 #[.int .i64 x, .int .u8 ci] w fun e w' => e = .returned (.bool true) ∧ St w0 w' F := by
  have HL := Lib.hid (lives_any h hM)
  clear h hM
  go_enter Tryz.func3, Tryz.ntmps3
  go_wp2_with (first
    | (go_at_call 4; refine HL.out.mono ?_; rintro e w1 ⟨rfl, h1⟩; have H1 := Lib.hid h1; clear h1 HL)
    | (at_make; apply stop))
  obtain ⟨n, hN, hn1, hn2⟩ := size_of x
  rw [hN]
  clear hN
  refine on (wpList_make_sep elemB8 rfl _ _ rfl n rfl rfl rfl rfl H1.out (by unfold maxLen; omega) (by omega) ?_)
  intro v' w2 h2
  have h3 : St w0 w2 (own 5 1 v' n ((List.replicate n (0 : UInt8)).map bC) * F) := by
    refine h2.perm ?_
    rw [Nat.mul_one, show (Value.int IntKind.u8 0).cells = #[.int .u8 0] from rfl, toList_madeCells_one, List.map_replicate]
    rfl
  obtain ⟨al, cl, rfl⟩ := h3.reads.sub
  obtain ⟨g, rfl⟩ := own_at h3 (by omega)
  have H3 := Lib.hid h3
  clear h2 h3 H1
  go_wp2
  go_loopw [21] (fun vi wr => ∃ (k : Nat) (xs : List UInt8), k ≤ n ∧ vi = .int .i64 k ∧ xs.length = n ∧ (∀ j, j < k → xs[j]? = some 32) ∧ St w0 wr (own 5 1 (.slice (some ⟨g, 0, none⟩) n cl) n (xs.map bC) * F)) (fun vi _ => n - (intOf vi).toNat)
  case atStart => exact ⟨0, List.replicate n 0, by omega, rfl, by simp, fun j hj => by omega, H3.out⟩
  clear H3
  case round =>
    obtain ⟨k, xs, hk, rfl, hxl, hxs, h4⟩ := hrel
    have HX := Lib.hid hxs
    by_cases hkn : k < n
    · obtain ⟨u, hu⟩ : ∃ u, xs[k]? = some u := ⟨_, List.getElem?_eq_getElem (by omega)⟩
      have c1 : wr.cell? ⟨g, k, none⟩ = some (bC u) := h4.own_cell (by rw [List.getElem?_map, hu]; rfl)
      have z1 := h4.own_free k
      have h5 := h4.own_set k (.int .u8 32)
      have H5 := Lib.hid h5
      have HXL := Lib.hid hxl
      clear h5 h4 hxs hxl hu
      go_wp2
      refine ⟨⟨k + 1, xs.set k 32, by omega, by go_num, by rw [List.length_set]; exact HXL.out, fun j hj => ?_, H5.out.perm (by rw [List.map_set]; rfl)⟩, by simp [intOf]; omega⟩
      rcases Nat.lt_or_ge j k with hjk | hjk
      · rw [List.getElem?_set_ne (by omega)]; exact HX.out j hjk
      · obtain rfl : j = k := by omega
        rw [List.getElem?_set_self (by rw [HXL.out]; exact hkn)]
    · obtain rfl : k = n := by omega
      have c1 : wr.cell? ⟨g, 0, none⟩ = some (bC 32) := h4.own_cell (by rw [List.getElem?_map, hxs 0 (by omega)]; rfl)
      have z1 := h4.own_free 0
      have h5 := h4.own_set 0 (.int .u8 35)
      have c2 : (wr.setCell ⟨g, 0, none⟩ (.int .u8 35)).cell? ⟨g, k - 1, none⟩ = some (bC 32) := h5.own_cell (by rw [List.getElem?_set_ne (by omega), List.getElem?_map, hxs (k - 1) (by omega)]; rfl)
      have z2 := h5.own_free (k - 1)
      have HXL := Lib.hid hxl
      by_cases hci : ci = 10
      · subst hci
        obtain ⟨ys, hys⟩ : ∃ ys : List UInt8, ys = xs.set 0 35 := ⟨_, rfl⟩
        have h6 : St w0 (wr.setCell ⟨g, 0, none⟩ (.int .u8 35)) (own 5 1 (.slice (some ⟨g, 0, none⟩) k cl) k (ys.map bC) * F) := h5.perm (by rw [hys, List.map_set]; rfl)
        have hyl : ys.length = k := by rw [hys, List.length_set]; exact hxl
        have hy0 : ys[0]? = some 35 := by rw [hys, List.getElem?_set_self (by omega)]
        have hyn : ∀ j : Nat, ys[j]? ≠ some 10 := fun j hj => by
          rcases Nat.eq_zero_or_pos j with rfl | h0
          · rw [hy0] at hj; cases hj
          · rcases Nat.lt_or_ge j k with hjk | hjk
            · rw [hys, List.getElem?_set_ne (by omega), hxs j hjk] at hj; cases hj
            · rw [List.getElem?_eq_none (by omega)] at hj; cases hj
        clear hys
        have hcv : (convert 24 9 (.slice (some ⟨g, 0, none⟩) k cl)).run Tryz.prog (wr.setCell ⟨g, 0, none⟩ (.int .u8 35)) = .ok (.string ⟨ys.toArray⟩) (wr.setCell ⟨g, 0, none⟩ (.int .u8 35)) := run_b2s Tryz.underlying24 Tryz.underlying5 Tryz.underlying9 h6.reads
        obtain ⟨t, ht⟩ : ∃ t : ByteArray, t = ⟨ys.toArray⟩ := ⟨_, rfl⟩
        rw [← ht] at hcv
        have htd : t.data.toList = ys := by rw [ht]
        have hts : t.size = k := by rw [← hyl, ← htd]; simp
        have ht0 : 0 < t.size := by omega
        have ht1 : t[0]'ht0 = 35 := by
          have e1 : t.data.toList[0]? = some 35 := by rw [htd]; exact hy0
          have e2 : t.data.toList[0]? = some (t[0]'ht0) := by
            rw [Array.getElem?_toList]
            exact Array.getElem?_eq_getElem ht0
          exact Option.some.inj (e2.symm.trans e1)
        have hti : Lib.indexByte t.data.toList 10 = -1 := by rw [htd]; exact index_no hyn
        have H6 := Lib.hid h6
        clear h6 h5 h4 hxs hxl c2 z2 hyn hy0 hyl htd ht
        rcases Nat.lt_or_ge 16384 k with hk16 | hk16
        · have HR := Lib.hid (run_long H6.out.right t (by omega) (by omega))
          clear hti ht1 ht0 hts HX HXL
          go_wp2_with (go_at_call 5; refine HR.out.mono ?_; rintro e w7 ⟨rfl, h7⟩; have H7 := Lib.hid h7; clear h7 HR)
          go_ret
          refine ⟨?_, H7.out⟩
          show Ending.returned (.bool !decide ((k : Int) ≤ 16384)) = _
          rw [decide_eq_false (by omega)]
          rfl
        · have HR := Lib.hid (run_note H6.out.right t ht0 ht1 (by omega) hti)
          clear hti ht1 ht0 hts HX HXL
          go_wp2_with (go_at_call 5; refine HR.out.mono ?_; rintro e w7 ⟨rfl, h7⟩; have H7 := Lib.hid h7; clear h7 HR)
          go_ret
          refine ⟨?_, H7.out⟩
          show Ending.returned (.bool !decide ((16384 : Int) < k)) = _
          rw [decide_eq_false (by omega)]
          rfl
      · obtain ⟨c, hcc⟩ : ∃ c : UInt8, (c.toNat : Int) = ci := ⟨UInt8.ofNat ci.toNat, by simp; omega⟩
        have hc10 : c ≠ 10 := fun e => hci (by rw [← hcc, e]; rfl)
        obtain ⟨ys, hys⟩ : ∃ ys : List UInt8, ys = (xs.set 0 35).set (k - 1) c := ⟨_, rfl⟩
        have h6 : St w0 ((wr.setCell ⟨g, 0, none⟩ (.int .u8 35)).setCell ⟨g, k - 1, none⟩ (.int .u8 ci)) (own 5 1 (.slice (some ⟨g, 0, none⟩) k cl) k (ys.map bC) * F) := (h5.own_set (k - 1) (.int .u8 ci)).perm (by rw [hys, List.map_set, List.map_set, ← hcc]; rfl)
        have hyl : ys.length = k := by rw [hys, List.length_set, List.length_set]; exact hxl
        have hy0 : ys[0]? = some 35 := by rw [hys, List.getElem?_set_ne (by omega), List.getElem?_set_self (by omega)]
        have hyn : ∀ j : Nat, ys[j]? ≠ some 10 := fun j hj => by
          rcases Nat.eq_zero_or_pos j with rfl | h0
          · rw [hy0] at hj; cases hj
          · rcases Nat.lt_or_ge j k with hjk | hjk
            · by_cases hjn : j = k - 1
              · rw [hys, hjn, List.getElem?_set_self (by rw [List.length_set]; omega)] at hj; exact hc10 (Option.some.inj hj)
              · rw [hys, List.getElem?_set_ne (by omega), List.getElem?_set_ne (by omega), hxs j hjk] at hj; cases hj
            · rw [List.getElem?_eq_none (by omega)] at hj; cases hj
        clear hys
        have c2' := c2
        have z2' := z2
        have hcv : (convert 24 9 (.slice (some ⟨g, 0, none⟩) k cl)).run Tryz.prog ((wr.setCell ⟨g, 0, none⟩ (.int .u8 35)).setCell ⟨g, k - 1, none⟩ (.int .u8 ci)) = .ok (.string ⟨ys.toArray⟩) ((wr.setCell ⟨g, 0, none⟩ (.int .u8 35)).setCell ⟨g, k - 1, none⟩ (.int .u8 ci)) := run_b2s Tryz.underlying24 Tryz.underlying5 Tryz.underlying9 h6.reads
        obtain ⟨t, ht⟩ : ∃ t : ByteArray, t = ⟨ys.toArray⟩ := ⟨_, rfl⟩
        rw [← ht] at hcv
        have htd : t.data.toList = ys := by rw [ht]
        have hts : t.size = k := by rw [← hyl, ← htd]; simp
        have ht0 : 0 < t.size := by omega
        have ht1 : t[0]'ht0 = 35 := by
          have e1 : t.data.toList[0]? = some 35 := by rw [htd]; exact hy0
          have e2 : t.data.toList[0]? = some (t[0]'ht0) := by
            rw [Array.getElem?_toList]
            exact Array.getElem?_eq_getElem ht0
          exact Option.some.inj (e2.symm.trans e1)
        have hti : Lib.indexByte t.data.toList 10 = -1 := by rw [htd]; exact index_no hyn
        have H6 := Lib.hid h6
        clear h6 h5 h4 hxs hxl c2 z2 hyn hy0 hyl htd ht
        rcases Nat.lt_or_ge 16384 k with hk16 | hk16
        · have HR := Lib.hid (run_long H6.out.right t (by omega) (by omega))
          clear hti ht1 ht0 hts HX HXL
          have hcb : (ci == 10) = false := by simpa using hci
          go_wp2_with (go_at_call 5; refine HR.out.mono ?_; rintro e w7 ⟨rfl, h7⟩; have H7 := Lib.hid h7; clear h7 HR)
          go_ret
          refine ⟨?_, H7.out⟩
          show Ending.returned (.bool !decide ((k : Int) ≤ 16384)) = _
          rw [decide_eq_false (by omega)]
          rfl
        · have HR := Lib.hid (run_note H6.out.right t ht0 ht1 (by omega) hti)
          clear hti ht1 ht0 hts HX HXL
          have hcb : (ci == 10) = false := by simpa using hci
          go_wp2_with (go_at_call 5; refine HR.out.mono ?_; rintro e w7 ⟨rfl, h7⟩; have H7 := Lib.hid h7; clear h7 HR)
          go_ret
          refine ⟨?_, H7.out⟩
          show Ending.returned (.bool !decide ((16384 : Int) < k)) = _
          rw [decide_eq_false (by omega)]
          rfl
#print axioms law_any
end Go.Proofs.YtknelobnbpboiaaGreatDoor
