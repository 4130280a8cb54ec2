/-
  Layer 12 (runs), what layers 14 to 16 call of it, and the document's.
-/
import Derived.Test.YtdjoigobmmaaiaaDoorMhM
import Derived.Deep.LoopGhost
import Derived.Deep.QuietTactic
import Derived.BigQuiet
namespace Go.Proofs.YtdjoigobmmaaiaaDoor
open Go.RowKit Go.Mz
set_option linter.unusedVariables false
set_option linter.unusedSimpArgs false
set_option maxRecDepth 100000

def rightI (was width : Int) : List Int → Bool
  | [] => true
  | x :: r => if x ≤ was ∨ width ≤ x then false else rightI x width r
theorem right_nat : ∀ (l : List Nat) (was : Int) (width : Nat), (∀ x ∈ l, was < (x : Int) ∧ x < width) → l.Pairwise (· < ·) → rightI was width (l.map Int.ofNat) = true := by
  intro l
  induction l with
  | nil => intro _ _ _ _; rfl
  | cons x r ih =>
    intro was width h hp
    have hx := h x (by simp)
    obtain ⟨h1, h2⟩ := List.pairwise_cons.1 hp
    rw [List.map_cons, rightI, if_neg (by simp; omega)]
    exact ih _ _ (fun y hy => ⟨by simpa using h1 y hy, (h y (by simp [hy])).2⟩) h2
theorem nat_right : ∀ (l : List Int) (was : Int) (width : Int), -1 ≤ was → rightI was width l = true → ∃ m : List Nat, l = m.map Int.ofNat ∧ m.Pairwise (· < ·) ∧ ∀ x ∈ m, was < (x : Int) ∧ (x : Int) < width := by
  intro l
  induction l with
  | nil => intro _ _ _ _; exact ⟨[], rfl, List.Pairwise.nil, by simp⟩
  | cons x r ih =>
    intro was width h h1
    rw [rightI] at h1
    split at h1
    · cases h1
    · rename_i hx
      obtain ⟨m, rfl, h2, h3⟩ := ih x width (by omega) h1
      refine ⟨x.toNat :: m, by simp; omega, List.pairwise_cons.2 ⟨fun y hy => by have := h3 y hy; omega, h2⟩, fun y hy => ?_⟩
      rcases List.mem_cons.1 hy with rfl | hy
      · omega
      · have := h3 y hy; omega
theorem map_nv (l : List Nat) : (l.map Int.ofNat).map iv = l.map nv := by rw [List.map_map]; rfl

theorem right_any {w : World} {l : List Int} {v : Value} (width : Int) (hr : Reads w 1 v l.length (l.map iv)) :
    Calls Tryd.prog 54 #[v, .int .i64 width] w fun e w' => e = .returned (.bool (rightI (-1) width l)) ∧ w' = w := by
  obtain ⟨al, c, rfl⟩ := hr.sub
  have hm := hr.len_le
  unfold maxLen at hm
  have HR := Lib.hid hr; clear hr
  obtain ⟨res, hres⟩ : ∃ res, rightI (-1) width l = res := ⟨_, rfl⟩
  rw [hres]
  have HRES := Lib.hid hres; clear hres
  go_enter Tryd.func54, Tryd.ntmps54
  go_wp2_with fail
  go_loop [5, 10] (fun vs vi => ∃ (k : Nat) (was : Int), k ≤ l.length ∧ vi = .int .i64 k ∧ vs = .int .i64 was ∧ rightI was width (l.drop k) = res) (fun _ vi => l.length - (intOf vi).toNat)
  case atStart => exact ⟨0, -1, by omega, rfl, rfl, HRES.out⟩
  case round =>
    obtain ⟨k, was, hk, rfl, rfl, hst⟩ := hrel
    by_cases hkn : k < l.length
    · obtain ⟨g, o, rfl, e1⟩ := HR.out.at_ hkn
      have hx := List.getElem?_eq_getElem hkn
      rw [List.getElem?_map, hx] at e1
      simp only [Option.map_some, iv] at e1
      rw [List.drop_eq_getElem_cons hkn, rightI] at hst
      clear hx
      generalize l[k] = x at *
      have hkl : (k : Int) < l.length := by omega
      by_cases h1 : x ≤ was
      · rw [if_pos (.inl h1)] at hst
        subst hst
        go_wp2_with fail
        go_ret
        exact ⟨rfl, rfl⟩
      · by_cases h2 : width ≤ x
        · rw [if_pos (.inr h2)] at hst
          subst hst
          go_wp2_with fail
          go_ret
          exact ⟨rfl, rfl⟩
        · rw [if_neg (by omega)] at hst
          have HST := Lib.hid hst; clear hst
          go_wp2_with fail
          exact ⟨⟨k + 1, x, by omega, by go_num, rfl, HST.out⟩, by simp [intOf]; omega⟩
    · obtain rfl : k = l.length := by omega
      rw [List.drop_length, rightI] at hst
      subst hst
      go_wp2_with fail
      go_ret
      exact ⟨rfl, rfl⟩

theorem same_any {w : World} {a b : List Nat} {va vb : Value} (ha : Reads w 1 va a.length (a.map nv)) (hb : Reads w 1 vb b.length (b.map nv)) :
    Calls Tryd.prog 17 #[va, vb] w fun e w' => e = .returned (.bool (decide (a = b))) ∧ ∃ n, w' = w.drewN n := by
  obtain ⟨aa, ca, rfl⟩ := ha.sub
  obtain ⟨ab, cb, rfl⟩ := hb.sub
  have hma := ha.len_le
  have hmb := hb.len_le
  unfold maxLen at hma hmb
  have HA := Lib.hid ha; have HB := Lib.hid hb; clear ha hb
  by_cases hl : a.length = b.length
  · have hli : (a.length : Int) = b.length := by omega
    obtain ⟨n, hn⟩ : ∃ n, n = a.length := ⟨_, rfl⟩
    rw [← hl, ← hn] at HB
    rw [← hl]
    rw [← hn] at HA hma
    rw [← hn]
    have HN := Lib.hid hn
    clear hli hmb
    have HL := Lib.hid hl; clear hl hn
    go_enter Tryd.func17, Tryd.ntmps17
    go_wp2_with fail
    go_loopw [5] (fun vi wr => ∃ (k q : Nat), k ≤ n ∧ vi = .int .i64 k ∧ wr = w.drewN q ∧ a.take k = b.take k) (fun vi _ => n - (intOf vi).toNat)
    case atStart => exact ⟨0, 0, by omega, rfl, rfl, by simp⟩
    case round =>
      obtain ⟨k, q, hk, rfl, rfl, hst⟩ := hrel
      by_cases hkn : k < n
      · obtain ⟨ga, oa, rfl, e1⟩ := HA.out.at_ hkn
        obtain ⟨gb, ob, rfl, e2⟩ := HB.out.at_ hkn
        have hxa := List.getElem?_eq_getElem (l := a) (i := k) (by rw [← HN.out]; exact hkn)
        have hxb := List.getElem?_eq_getElem (l := b) (i := k) (by rw [← HL.out, ← HN.out]; exact hkn)
        rw [List.getElem?_map, hxa] at e1
        rw [List.getElem?_map, hxb] at e2
        simp only [Option.map_some, nv] at e1 e2
        have e1' : (w.drewN q).cell? ⟨ga, oa + k, none⟩ = some (.int .i64 ((a[k]'(by rw [← HN.out]; exact hkn) : Nat) : Int)) := e1
        have e2' : (w.drewN q).cell? ⟨gb, ob + k, none⟩ = some (.int .i64 ((b[k]'(by rw [← HL.out, ← HN.out]; exact hkn) : Nat) : Int)) := e2
        have ta : a.take (k + 1) = a.take k ++ [a[k]'(by rw [← HN.out]; exact hkn)] := by rw [List.take_add_one, hxa]; rfl
        have tb : b.take (k + 1) = b.take k ++ [b[k]'(by rw [← HL.out, ← HN.out]; exact hkn)] := by rw [List.take_add_one, hxb]; rfl
        have hne : ∀ h : a = b, a[k]'(by rw [← HN.out]; exact hkn) = b[k]'(by rw [← HL.out, ← HN.out]; exact hkn) := fun h => by subst h; rfl
        have HTA := Lib.hid ta; have HTB := Lib.hid tb; have HNE := Lib.hid hne; have HST := Lib.hid hst
        clear ta tb hne hxa hxb e1 e2 hst
        generalize a[k]'(by rw [← HN.out]; exact hkn) = x at *
        generalize b[k]'(by rw [← HL.out, ← HN.out]; exact hkn) = y at *
        have hkl : (k : Int) < n := by omega
        generalize hW : w.drewN q = W at *
        by_cases hxy : (x : Int) = y
        · have hxy2 : x = y := by omega
          subst hxy2
          clear hxy
          go_upto_region 6 with (fail)
          go_quiet (fail)
          go_wp2_with fail
          exact ⟨⟨k + 1, q + nq, by omega, by go_num, by rw [← hW, World.drewN_drewN], by rw [HTA.out, HTB.out, HST.out]⟩, by simp [intOf]; omega⟩
        · go_upto_region 6 with (fail)
          go_quiet (fail)
          go_wp2_with fail
          go_ret
          refine ⟨?_, q + nq, by rw [← hW, World.drewN_drewN]⟩
          have hd : decide (a = b) = false := decide_eq_false fun h => hxy (by rw [HNE.out h])
          rw [hd]; rfl
      · obtain rfl : k = n := by omega
        go_wp2_with fail
        go_ret
        refine ⟨?_, q, rfl⟩
        rw [HN.out, List.take_length, List.take_of_length_le (by rw [HL.out]; exact Nat.le_refl _)] at hst
        rw [decide_eq_true hst]; rfl
  · have hli : ¬ (a.length : Int) = b.length := by omega
    have HL := Lib.hid hl; clear hl
    go_enter Tryd.func17, Tryd.ntmps17
    go_wp2_with fail
    go_ret
    refine ⟨?_, 0, rfl⟩
    rw [decide_eq_false fun h => HL.out (by rw [h])]; rfl

set_option maxHeartbeats 4000000 in
theorem changes_any {w0 w : World} {F : SProp} (h : St w0 w F) {p : List Nat} (hb : Bit p) (hl : p.length ≤ 1000000) {sb : ByteArray} (hsb : sb = ⟨(tx p).toArray⟩) :
    Calls Tryd.prog 25 #[.string sb] w fun e w' => ∃ v, e = .returned v ∧ St w0 w' (own 3 1 v (chg p).length ((chg p).map nv) * F) := by
  subst hsb
  have hvx : (tx p).length = p.length := by simp
  obtain ⟨res, hres⟩ : ∃ res, chg p = res := ⟨_, rfl⟩
  rw [hres]
  rw [chg] at hres
  have HB := Lib.hid hb; clear hb
  have T := elemI
  have H := Lib.hid (St.own_nil 3 1 h); clear h
  have HRES := Lib.hid hres; clear hres
  go_enter Tryd.func25, Tryd.ntmps25
  go_wp2_with fail
  go_loopw [3, 4] (fun vo vi wr => ∃ (k c : Nat) (acc : List Nat) (ao : Option Addr) (co : Nat), k ≤ p.length ∧ vi = .int .i64 k ∧ vo = .slice ao acc.length co ∧ c ≤ 1 ∧ c = (if k = 0 then 0 else p.getD (k - 1) 0) ∧ acc ++ chF c k (p.drop k) = res ∧ acc.length ≤ k ∧ St w0 wr (own 3 1 (.slice ao acc.length co) acc.length (acc.map nv) * F)) (fun _ vi _ => p.length - (intOf vi).toNat)
  case atStart => exact ⟨0, 0, [], none, 0, by omega, rfl, rfl, by omega, rfl, HRES.out, by simp, H.out⟩
  case round =>
    clear H
    obtain ⟨k, c, acc, ao, co, hk, rfl, rfl, hc1, hc, hall, hal, hst⟩ := hrel
    by_cases hkn : k < p.length
    · have hg : (tx p)[k]? = some (dg p[k]) := by rw [tx, List.getElem?_map, List.getElem?_eq_getElem hkn]; rfl
      have G := fun h => ba_get hg h
      have hx1 : p[k] ≤ 1 := HB.out _ (List.getElem_mem _)
      have hkl : (k : Int) < p.length := by omega
      have hnx : p[k] = (if k + 1 = 0 then 0 else p.getD (k + 1 - 1) 0) := by
        rw [if_neg (by omega), Nat.add_sub_cancel, List.getD_eq_getElem?_getD, List.getElem?_eq_getElem hkn]; rfl
      rw [List.drop_eq_getElem_cons hkn, chF] at hall
      have HNX := Lib.hid hnx; clear hnx hg
      have hco := hst.reads.len_le
      unfold maxLen at hco
      by_cases hk0 : k = 0
      · subst hk0
        rw [if_pos rfl] at hc
        subst hc
        generalize p[0] = x at *
        have HALL := Lib.hid hall; clear hall
        have HST := Lib.hid hst; clear hst
        rcases (show x = 0 ∨ x = 1 by omega) with rfl | rfl
        · have HA2 : acc ++ chF 0 (0 + 1) (p.drop (0 + 1)) = res := HALL.out
          have HA2 := Lib.hid HA2
          clear HALL
          go_wp2_with fail
          exact ⟨⟨1, 0, acc, ao, co, by omega, by go_num, rfl, by omega, HNX.out, HA2.out, by omega, HST.out⟩, by simp [intOf]; omega⟩
        · have HA2 : acc ++ 0 :: chF 1 (0 + 1) (p.drop (0 + 1)) = res := HALL.out
          have HA2 := Lib.hid HA2
          clear HALL
          go_wp2_with (at_builtin; apply stop)
          refine on (wpList_append_sep T rfl _ _ rfl rfl (HST.out.drop_alloc (.cells #[.int .i64 0] 3)) rfl (reads_int1 wr 0) (iv_oneCell [0]) (by unfold maxLen; omega) (by omega) ?_)
          intro v' w7 h9 _
          have h9 : St w0 w7 (own 3 1 v' (acc ++ [0]).length ((acc ++ [0]).map nv) * F) := by
            rw [List.length_append, List.map_append]; exact h9
          obtain ⟨aN, cN, rfl⟩ := h9.reads.sub
          have hle : (acc ++ [0]).length = acc.length + 1 := by simp
          rw [List.append_cons] at HA2
          generalize acc ++ [0] = acc2 at *
          have hle2 : acc2.length ≤ 1 := by omega
          rw [hle] at h9
          have H9 := Lib.hid h9; clear h9
          go_wp2_with fail
          exact ⟨⟨1, 1, acc2, aN, cN, by omega, by go_num, by rw [hle], by omega, HNX.out, HA2.out, by omega, by rw [hle]; exact H9.out⟩, by simp [intOf]; omega⟩
      · rw [if_neg hk0] at hc
        obtain ⟨m, rfl⟩ : ∃ m, k = m + 1 := ⟨k - 1, by omega⟩
        rw [Nat.add_sub_cancel, List.getD_eq_getElem?_getD, List.getElem?_eq_getElem (by omega)] at hc
        have hg2 : (tx p)[m]? = some (dg c) := by
          rw [tx, List.getElem?_map, List.getElem?_eq_getElem (by omega), hc]; rfl
        have G2 := fun h => ba_get hg2 h
        clear hc hg2
        generalize p[m + 1] = x at *
        have hm1 : ((m + 1 : Nat) : Int) - 1 = (m : Int) := by omega
        have hml : m < p.length := by omega
        have HALL := Lib.hid hall; clear hall
        have HST := Lib.hid hst; clear hst
        by_cases hxc : x = c
        · subst hxc
          have HA2 : acc ++ chF x (m + 1 + 1) (p.drop (m + 1 + 1)) = res := by have := HALL.out; rw [if_pos rfl] at this; exact this
          have HA2 := Lib.hid HA2
          clear HALL
          go_wp2_with fail
          exact ⟨⟨m + 1 + 1, x, acc, ao, co, by omega, by go_num, rfl, hx1, HNX.out, HA2.out, by omega, HST.out⟩, by simp [intOf]; omega⟩
        · have HA2 : acc ++ (m + 1) :: chF x (m + 1 + 1) (p.drop (m + 1 + 1)) = res := by have := HALL.out; rw [if_neg hxc] at this; exact this
          have HA2 := Lib.hid HA2
          clear HALL
          have hd : (((dg x).toNat : Int) != ((dg c).toNat : Int)) = true := by
            rcases (show x = 0 ∨ x = 1 by omega) with rfl | rfl <;> rcases (show c = 0 ∨ c = 1 by omega) with rfl | rfl <;> first | exact absurd rfl hxc | decide
          go_wp2_with (at_builtin; apply stop)
          refine on (wpList_append_sep T rfl _ _ rfl rfl (HST.out.drop_alloc (.cells #[.int .i64 ((m + 1 : Nat) : Int)] 3)) rfl (reads_int1 wr ((m + 1 : Nat) : Int)) (iv_oneCell [((m + 1 : Nat) : Int)]) (by unfold maxLen; omega) (by omega) ?_)
          intro v' w7 h9 _
          have h9 : St w0 w7 (own 3 1 v' (acc ++ [m + 1]).length ((acc ++ [m + 1]).map nv) * F) := by
            rw [List.length_append, List.map_append]; exact h9
          obtain ⟨aN, cN, rfl⟩ := h9.reads.sub
          have hle : (acc ++ [m + 1]).length = acc.length + 1 := by simp
          rw [List.append_cons] at HA2
          generalize acc ++ [m + 1] = acc2 at *
          rw [hle] at h9
          have H9 := Lib.hid h9; clear h9
          go_wp2_with fail
          exact ⟨⟨m + 1 + 1, x, acc2, aN, cN, by omega, by go_num, by rw [hle], hx1, HNX.out, HA2.out, by omega, by rw [hle]; exact H9.out⟩, by simp [intOf]; omega⟩
    · obtain rfl : k = p.length := by omega
      rw [List.drop_length, chF, List.append_nil] at hall
      subst hall
      have HST := Lib.hid hst; clear hst
      go_wp2_with fail
      go_ret
      exact ⟨_, rfl, HST.out⟩

theorem nextI_go {l : List Nat} {at' : Int} {toB : Bool} {width k : Nat} (hk : k < l.length) (par : Bool) : nextF par at' toB width (l.drop k) = if at' < (l[k] : Int) ∧ par = toB then (l[k], (l.drop (k + 1)).headD width) else nextF (!par) at' toB width (l.drop (k + 1)) := by
  rw [List.drop_eq_getElem_cons hk, nextF]

set_option maxHeartbeats 4000000 in
theorem next_any {w : World} {l : List Nat} {v : Value} (at' : Int) (toB : Bool) (width : Nat) (hr : Reads w 1 v l.length (l.map nv)) (hl : l.length ≤ 1000000) :
    Calls Tryd.prog 55 #[v, .int .i64 at', .bool toB, .int .i64 (width : Int)] w fun e w' => e = .returned (.tuple #[.int .i64 ((nextF true at' toB width l).1 : Nat), .int .i64 ((nextF true at' toB width l).2 : Nat)]) ∧ ∃ n, w' = w.drewN n := by
  obtain ⟨al, c, rfl⟩ := hr.sub
  have HR := Lib.hid hr; clear hr
  obtain ⟨res, hres⟩ : ∃ res, nextF true at' toB width l = res := ⟨_, rfl⟩
  rw [hres]
  have HRES := Lib.hid hres; clear hres
  go_enter Tryd.func55, Tryd.ntmps55
  go_wp2_with fail
  go_loop [14] (fun vi => ∃ k : Nat, k ≤ l.length ∧ vi = .int .i64 k ∧ nextF (decide (k % 2 = 0)) at' toB width (l.drop k) = res) (fun vi => l.length - (intOf vi).toNat)
  case atStart => exact ⟨0, by omega, rfl, HRES.out⟩
  case round =>
    obtain ⟨k, hk, rfl, hst⟩ := hrel
    by_cases hkn : k < l.length
    · obtain ⟨g, o, rfl, e1⟩ := HR.out.at_ hkn
      have hx := List.getElem?_eq_getElem hkn
      rw [List.getElem?_map, hx] at e1
      simp only [Option.map_some, nv] at e1
      rw [nextI_go hkn] at hst
      have hkl : (k : Int) < l.length := by omega
      have hpar : (!decide (k % 2 = 0)) = decide ((k + 1) % 2 = 0) := by
        rcases Nat.mod_two_eq_zero_or_one k with h | h
        · rw [h, show (k + 1) % 2 = 1 by omega]; rfl
        · rw [h, show (k + 1) % 2 = 0 by omega]; rfl
      rw [hpar] at hst
      have HN : ∀ (hk2 : k + 1 < l.length), ∃ y : Nat, (l.drop (k + 1)).headD width = y ∧ w.cell? ⟨g, o + (k + 1), none⟩ = some (.int .i64 (y : Int)) := fun hk2 => by
        obtain ⟨g', o', he, e2⟩ := HR.out.at_ hk2
        cases he
        rw [List.getElem?_map, List.getElem?_eq_getElem hk2] at e2
        rw [List.drop_eq_getElem_cons hk2]
        exact ⟨_, rfl, e2⟩
      have HN := Lib.hid HN
      have hz : ¬ k + 1 < l.length → (l.drop (k + 1)).headD width = width := fun h => by rw [List.drop_eq_nil_of_le (by omega)]; rfl
      have HZ := Lib.hid hz
      have hm2 : (k : Int) % 2 = ((k % 2 : Nat) : Int) := by omega
      clear hx hz hpar
      generalize l[k] = x at *
      by_cases h1 : at' < (x : Int)
      · rcases Nat.mod_two_eq_zero_or_one k with h2 | h2
        · rw [h2] at hst hm2
          cases toB
          · rw [if_neg (by simp)] at hst
            have HST := Lib.hid hst; clear hst h2
            go_wp2_with fail
            exact ⟨⟨k + 1, by omega, by go_num, HST.out⟩, by simp [intOf]; omega⟩
          · rw [if_pos ⟨h1, by simp⟩] at hst
            clear h2
            by_cases hk2 : k + 1 < l.length
            · obtain ⟨y, hy, e2⟩ := HN.out hk2
              rw [hy] at hst
              have HST := Lib.hid hst; clear hst
              have hk3 : ((k : Int) + 1) < l.length := by omega
              clear hy
              go_upto_region 6 with (fail)
              go_quiet (fail)
              go_wp2_with fail
              go_ret2
              exact ⟨by rw [← HST.out]; rfl, _, rfl⟩
            · rw [HZ.out hk2] at hst
              have HST := Lib.hid hst; clear hst
              have hk3 : ¬ ((k : Int) + 1) < l.length := by omega
              go_wp2_with fail
              go_ret2
              exact ⟨by rw [← HST.out]; rfl, 0, rfl⟩
        · rw [h2] at hst hm2
          cases toB
          · rw [if_pos ⟨h1, by simp⟩] at hst
            clear h2
            by_cases hk2 : k + 1 < l.length
            · obtain ⟨y, hy, e2⟩ := HN.out hk2
              rw [hy] at hst
              have HST := Lib.hid hst; clear hst
              have hk3 : ((k : Int) + 1) < l.length := by omega
              clear hy
              go_upto_region 6 with (fail)
              go_quiet (fail)
              go_wp2_with fail
              go_ret2
              exact ⟨by rw [← HST.out]; rfl, _, rfl⟩
            · rw [HZ.out hk2] at hst
              have HST := Lib.hid hst; clear hst
              have hk3 : ¬ ((k : Int) + 1) < l.length := by omega
              go_wp2_with fail
              go_ret2
              exact ⟨by rw [← HST.out]; rfl, 0, rfl⟩
          · rw [if_neg (by simp)] at hst
            have HST := Lib.hid hst; clear hst h2
            go_wp2_with fail
            exact ⟨⟨k + 1, by omega, by go_num, HST.out⟩, by simp [intOf]; omega⟩
      · rw [if_neg (by simp [h1])] at hst
        have HST := Lib.hid hst; clear hst
        go_wp2_with fail
        exact ⟨⟨k + 1, by omega, by go_num, HST.out⟩, by simp [intOf]; omega⟩
    · obtain rfl : k = l.length := by omega
      rw [List.drop_length, nextF] at hst
      subst hst
      go_wp2_with fail
      go_ret2
      exact ⟨rfl, 0, rfl⟩
set_option maxHeartbeats 4000000 in
theorem rnext_any {w : World} {l : List Nat} {v : Value} (at' : Int) (toB : Bool) (width : Nat) (hr : Reads w 1 v l.length (l.map nv)) (hl : l.length ≤ 1000000) :
    Calls Tryd.prog 59 #[v, .int .i64 at', .bool toB, .int .i64 (width : Int)] w fun e w' => e = .returned (.tuple #[.int .i64 ((nextF true at' toB width l).1 : Nat), .int .i64 ((nextF true at' toB width l).2 : Nat)]) ∧ ∃ n, w' = w.drewN n := by
  obtain ⟨al, c, rfl⟩ := hr.sub
  have HR := Lib.hid hr; clear hr
  obtain ⟨res, hres⟩ : ∃ res, nextF true at' toB width l = res := ⟨_, rfl⟩
  rw [hres]
  have HRES := Lib.hid hres; clear hres
  go_enter Tryd.func59, Tryd.ntmps59
  go_wp2_with fail
  go_loop [10] (fun vi => ∃ k : Nat, k ≤ l.length ∧ vi = .int .i64 k ∧ nextF (decide (k % 2 = 0)) at' toB width (l.drop k) = res) (fun vi => l.length - (intOf vi).toNat)
  case atStart => exact ⟨0, by omega, rfl, HRES.out⟩
  case round =>
    obtain ⟨k, hk, rfl, hst⟩ := hrel
    by_cases hkn : k < l.length
    · obtain ⟨g, o, rfl, e1⟩ := HR.out.at_ hkn
      have hx := List.getElem?_eq_getElem hkn
      rw [List.getElem?_map, hx] at e1
      simp only [Option.map_some, nv] at e1
      rw [nextI_go hkn] at hst
      have hkl : (k : Int) < l.length := by omega
      have hpar : (!decide (k % 2 = 0)) = decide ((k + 1) % 2 = 0) := by
        rcases Nat.mod_two_eq_zero_or_one k with h | h
        · rw [h, show (k + 1) % 2 = 1 by omega]; rfl
        · rw [h, show (k + 1) % 2 = 0 by omega]; rfl
      rw [hpar] at hst
      have HN : ∀ (hk2 : k + 1 < l.length), ∃ y : Nat, (l.drop (k + 1)).headD width = y ∧ w.cell? ⟨g, o + (k + 1), none⟩ = some (.int .i64 (y : Int)) := fun hk2 => by
        obtain ⟨g', o', he, e2⟩ := HR.out.at_ hk2
        cases he
        rw [List.getElem?_map, List.getElem?_eq_getElem hk2] at e2
        rw [List.drop_eq_getElem_cons hk2]
        exact ⟨_, rfl, e2⟩
      have HN := Lib.hid HN
      have hz : ¬ k + 1 < l.length → (l.drop (k + 1)).headD width = width := fun h => by rw [List.drop_eq_nil_of_le (by omega)]; rfl
      have HZ := Lib.hid hz
      have hm2 : (k : Int) % 2 = ((k % 2 : Nat) : Int) := by omega
      clear hx hz hpar
      generalize l[k] = x at *
      by_cases h1 : at' < (x : Int)
      · rcases Nat.mod_two_eq_zero_or_one k with h2 | h2
        · rw [h2] at hst hm2
          cases toB
          · rw [if_neg (by simp)] at hst
            have HST := Lib.hid hst; clear hst h2
            go_wp2_with fail
            exact ⟨⟨k + 1, by omega, by go_num, HST.out⟩, by simp [intOf]; omega⟩
          · rw [if_pos ⟨h1, by simp⟩] at hst
            clear h2
            by_cases hk2 : k + 1 < l.length
            · obtain ⟨y, hy, e2⟩ := HN.out hk2
              rw [hy] at hst
              have HST := Lib.hid hst; clear hst
              have hk3 : ¬ (k : Int) = l.length - 1 := by omega
              clear hy
              go_upto_region 7 with (fail)
              go_quiet (fail)
              go_wp2_with fail
              go_ret2
              exact ⟨by rw [← HST.out]; rfl, _, rfl⟩
            · rw [HZ.out hk2] at hst
              have HST := Lib.hid hst; clear hst
              have hk3 : (l.length : Int) - 1 = k := by omega
              go_wp2_with fail
              go_ret2
              exact ⟨by rw [← HST.out]; rfl, 0, rfl⟩
        · rw [h2] at hst hm2
          cases toB
          · rw [if_pos ⟨h1, by simp⟩] at hst
            clear h2
            by_cases hk2 : k + 1 < l.length
            · obtain ⟨y, hy, e2⟩ := HN.out hk2
              rw [hy] at hst
              have HST := Lib.hid hst; clear hst
              have hk3 : ¬ (k : Int) = l.length - 1 := by omega
              clear hy
              go_upto_region 7 with (fail)
              go_quiet (fail)
              go_wp2_with fail
              go_ret2
              exact ⟨by rw [← HST.out]; rfl, _, rfl⟩
            · rw [HZ.out hk2] at hst
              have HST := Lib.hid hst; clear hst
              have hk3 : (l.length : Int) - 1 = k := by omega
              go_wp2_with fail
              go_ret2
              exact ⟨by rw [← HST.out]; rfl, 0, rfl⟩
          · rw [if_neg (by simp)] at hst
            have HST := Lib.hid hst; clear hst h2
            go_wp2_with fail
            exact ⟨⟨k + 1, by omega, by go_num, HST.out⟩, by simp [intOf]; omega⟩
      · rw [if_neg (by simp [h1])] at hst
        have HST := Lib.hid hst; clear hst
        go_wp2_with fail
        exact ⟨⟨k + 1, by omega, by go_num, HST.out⟩, by simp [intOf]; omega⟩
    · obtain rfl : k = l.length := by omega
      rw [List.drop_length, nextF] at hst
      subst hst
      go_wp2_with fail
      go_ret2
      exact ⟨rfl, 0, rfl⟩

theorem Reads.takeR {w : World} {g o n cap : Nat} {xs : List Value} (h : Reads w 1 (.slice (some ⟨g, o, none⟩) n cap) n xs) {k : Nat} (hk : k ≤ n) : Reads w 1 (.slice (some ⟨g, o, none⟩) k cap) k (xs.take k) := by
  obtain ⟨hl, ⟨h0, _⟩ | ⟨x, c, h1, h2, h3, h4⟩⟩ := h
  · cases h0
  · cases h1
    refine ⟨by rw [List.length_take, hl]; omega, .inr ⟨_, _, rfl, by omega, h3, fun j u hu => h4 j u ?_⟩⟩
    rw [List.getElem?_take] at hu
    split at hu
    · exact hu
    · cases hu
theorem nv_oneCell (l : List Nat) : ∀ u ∈ l.map nv, u.oneCell' = true := by
  intro u hu
  obtain ⟨x, _, rfl⟩ := List.mem_map.1 hu
  rfl
theorem reads_nat1 (w : World) (x : Nat) : Reads (w.alloc (.cells #[.int .i64 (x : Int)] 3)) 1 (.slice (some ⟨w.heap.size, 0, none⟩) 1 1) 1 ([x].map nv) := reads_int1 w x

set_option maxHeartbeats 4000000 in
theorem toggle_any {w0 w : World} {F : SProp} (h : St w0 w F) {l : List Nat} {v : Value} (hr : Stb w0 F (fun w => Reads w 1 v l.length (l.map nv))) (x : Nat) (hl : l.length ≤ 1000000) :
    Calls Tryd.prog 79 #[v, .int .i64 (x : Int)] w fun e w' => ∃ v', e = .returned v' ∧ St w0 w' (own 3 1 v' (tog l x).length ((tog l x).map nv) * F) := by
  obtain ⟨al, c, rfl⟩ := (hr w h).sub
  have T := elemI
  have hrd := hr w h
  have hl1 := h.lit #[] 3 0 rfl (by decide)
  have hx1 := hr _ hl1.right
  have HL1 := Lib.hid hl1; have HX1 := Lib.hid hx1
  have H := Lib.hid h; clear hl1 hx1 h
  have more : ∀ v' w', St w0 w' (own 3 1 v' (l.length + 1) (l.map nv ++ [x].map nv) * F) → tog l x = l ++ [x] → St w0 w' (own 3 1 v' (tog l x).length ((tog l x).map nv) * F) := fun v' w' h e => by
    rw [e, List.length_append, List.map_append]; exact h
  have MORE := Lib.hid more; clear more
  rcases List.eq_nil_or_concat l with h0 | ⟨m, y, h0⟩
  · have ht : tog l x = l ++ [x] := by rw [h0]; simp [tog]
    have HTG := Lib.hid ht; clear ht
    have hl0 : l.length = 0 := by rw [h0]; rfl
    clear h0
    have hd : ¬ 0 < (l.length : Int) := by omega
    clear hl0
    go_enter Tryd.func79, Tryd.ntmps79
    go_wp2_with (at_builtin; apply stop)
    refine on (wpList_append_sep T rfl _ _ rfl rfl HL1.out rfl HX1.out (nv_oneCell l) (by unfold maxLen; omega) (by omega) ?_)
    intro v' w7 h9 _
    rw [List.nil_append, Nat.zero_add] at h9
    obtain ⟨aN, cN, rfl⟩ := h9.reads.sub
    have H9 := Lib.hid h9; clear h9
    go_wp2_with (at_builtin; apply stop)
    refine on (wpList_append_sep T rfl _ _ rfl rfl (H9.out.drop_alloc (.cells #[.int .i64 (x : Int)] 3)) rfl (reads_nat1 w7 x) (nv_oneCell [x]) (by unfold maxLen; omega) (by omega) ?_)
    intro v' w8 h10 _
    have H10 := Lib.hid (MORE.out _ _ h10 HTG.out); clear h10
    go_wp2_with fail
    go_ret
    exact ⟨_, rfl, H10.out⟩
  · have hyl : m.length < l.length := by rw [h0]; simp
    obtain ⟨g, o, rfl, e1⟩ := hrd.at_ hyl
    have hy : l[m.length]? = some y := by rw [h0, List.concat_eq_append, List.getElem?_append_right (Nat.le_refl _)]; simp
    rw [List.getElem?_map, hy] at e1
    simp only [Option.map_some, nv] at e1
    have hlm : (l.length : Int) - 1 = (m.length : Int) := by rw [h0]; simp
    have hlp : 0 < (l.length : Int) := by omega
    by_cases hxy : y = x
    · subst hxy
      have ht : tog l y = m := by rw [h0, List.concat_eq_append, tog_out]
      have hrt := Reads.takeR HX1.out (k := m.length) (by omega)
      have e2 : (l.map nv).take m.length = m.map nv := by rw [← List.map_take, h0, List.concat_eq_append, List.take_left]
      rw [e2] at hrt
      rw [ht]
      have hcl : m.length ≤ c := by
        obtain ⟨_, ⟨h0, _⟩ | ⟨x, c, h1, h2, _, _⟩⟩ := hrd
        · cases h0
        · cases h1; omega
      have hcl2 : (m.length : Int) ≤ c := by omega
      have HRT := Lib.hid hrt
      have hml : m.length ≤ 1000000 := by omega
      clear hrt e2 ht hrd hy h0 HX1
      go_enter Tryd.func79, Tryd.ntmps79
      go_wp2_with (at_builtin; apply stop)
      refine on (wpList_append_sep T rfl _ _ rfl rfl HL1.out rfl HRT.out (nv_oneCell m) (by unfold maxLen; omega) (by omega) ?_)
      intro v' w7 h9 _
      rw [List.nil_append, Nat.zero_add] at h9
      have H9 := Lib.hid h9; clear h9
      go_wp2_with fail
      go_ret
      exact ⟨_, rfl, H9.out⟩
    · have ht : tog l x = l ++ [x] := by rw [tog, if_neg]; rw [h0, List.concat_eq_append]; simpa using hxy
      have HTG := Lib.hid ht; clear ht
      have hxy2 : ¬ (y : Int) = x := by omega
      clear hrd hy h0 hxy
      go_enter Tryd.func79, Tryd.ntmps79
      go_wp2_with (at_builtin; apply stop)
      refine on (wpList_append_sep T rfl _ _ rfl rfl HL1.out rfl HX1.out (nv_oneCell l) (by unfold maxLen; omega) (by omega) ?_)
      intro v' w7 h9 _
      rw [List.nil_append, Nat.zero_add] at h9
      obtain ⟨aN, cN, rfl⟩ := h9.reads.sub
      have H9 := Lib.hid h9; clear h9
      go_wp2_with (at_builtin; apply stop)
      refine on (wpList_append_sep T rfl _ _ rfl rfl (H9.out.drop_alloc (.cells #[.int .i64 (x : Int)] 3)) rfl (reads_nat1 w7 x) (nv_oneCell [x]) (by unfold maxLen; omega) (by omega) ?_)
      intro v' w8 h10 _
      have H10 := Lib.hid (MORE.out _ _ h10 HTG.out); clear h10
      go_wp2_with fail
      go_ret
      exact ⟨_, rfl, H10.out⟩

def difF (was : Nat) : List Nat → List Nat
  | [] => []
  | x :: r => (x - was) :: difF x r
theorem difF_eq (l : List Nat) (width : Nat) : ∀ was, lensF was l width = difF was (l ++ [width]) := by
  induction l with
  | nil => intro was; rfl
  | cons x r ih => intro was; rw [lensF, ih, List.cons_append, difF]
theorem lensF_len (l : List Nat) (width : Nat) : ∀ was, (lensF was l width).length = l.length + 1 := by
  induction l with
  | nil => intro was; rfl
  | cons x r ih => intro was; simp [lensF, ih]

set_option maxHeartbeats 4000000 in
theorem lengths_any {w0 w : World} {F : SProp} (h : St w0 w F) {l : List Nat} {v : Value} {width : Nat} (hr : Stb w0 F (fun w => Reads w 1 v l.length (l.map nv))) (hp : l.Pairwise (· < ·)) (hb : ∀ x ∈ l, x < width) (hw : width ≤ 32768) (hl : l.length ≤ 1000000) :
    Calls Tryd.prog 76 #[v, .int .i64 (width : Int)] w fun e w' => ∃ v', e = .returned (.tuple #[v', .int .i64 0]) ∧ St w0 w' (own 3 1 v' (lensF 0 l width).length ((lensF 0 l width).map nv) * F) := by
  obtain ⟨al, c, rfl⟩ := (hr w h).sub
  have T := elemI
  have hrg : rightI (-1) (width : Int) (l.map Int.ofNat) = true := right_nat l _ _ (fun x hx => ⟨by omega, hb x hx⟩) hp
  have HRG := Lib.hid (by
    have C := right_any (l := l.map Int.ofNat) (v := .slice al l.length c) (width : Int) (w := w) (by rw [map_nv, List.length_map]; exact hr w h)
    rw [hrg] at C; exact C)
  have hl1 := h.lit #[] 3 0 rfl (by decide)
  have hx1 := hr _ hl1.right
  have HL1 := Lib.hid hl1; have HX1 := Lib.hid hx1
  obtain ⟨L, hL⟩ : ∃ L, L = l ++ [width] := ⟨_, rfl⟩
  obtain ⟨res, hres⟩ : ∃ res, res = lensF 0 l width := ⟨_, rfl⟩
  have hdL : [] ++ difF 0 (L.drop 0) = res := by rw [hres, difF_eq, hL]; rfl
  have hLl : L.length = l.length + 1 := by rw [hL]; simp
  have hmo : ∀ k (hk : k < L.length), L[k] ≤ width ∧ (∀ j, j < k → L.getD j 0 ≤ L[k]) := by
    subst hL
    intro k hk
    have hpp : (l ++ [width]).Pairwise (· < ·) := List.pairwise_append.2 ⟨hp, List.pairwise_singleton _ _, fun a ha b hb2 => by rw [List.mem_singleton.1 hb2]; exact hb a ha⟩
    refine ⟨?_, fun j hj => ?_⟩
    · have hm := List.getElem_mem hk
      rcases List.mem_append.1 hm with h | h
      · exact Nat.le_of_lt (hb _ h)
      · rw [List.mem_singleton.1 h]; exact Nat.le_refl _
    · have := List.pairwise_iff_getElem.1 hpp j k (by omega) hk hj
      rw [List.getD_eq_getElem?_getD, List.getElem?_eq_getElem (by omega)]
      exact Nat.le_of_lt this
  have HMO := Lib.hid hmo; have HDL := Lib.hid hdL
  have h2 : ∀ v' w', St w0 w' (own 3 1 v' (l.length + 1) (l.map nv ++ [width].map nv) * F) → St w0 w' (own 3 1 v' L.length (L.map nv) * F) := fun v' w' h => by
    rw [hL, List.length_append, List.map_append]; exact h
  have H2 := Lib.hid h2
  have HLL := Lib.hid hLl
  have hLm : L.length ≤ 1000001 := by omega
  rw [← hres]
  clear hrg hl1 hx1 hL hres hdL hmo hp hb h2 hLl
  have H := Lib.hid h; clear h
  have hw1 : ¬ (width : Int) < 0 := by omega
  have hw2 : ¬ (32768 : Int) < width := by omega
  go_enter Tryd.func76, Tryd.ntmps76
  go_wp2_with fail
  refine HRG.out.mono ?_
  rintro e w2 ⟨rfl, rfl⟩
  go_wp2_with (at_builtin; apply stop)
  refine on (wpList_append_sep T rfl _ _ rfl rfl HL1.out rfl HX1.out (nv_oneCell l) (by unfold maxLen; omega) (by omega) ?_)
  intro v3 w3 h3 _
  rw [List.nil_append, Nat.zero_add] at h3
  obtain ⟨a3, c3, rfl⟩ := h3.reads.sub
  have H3 := Lib.hid h3; clear h3
  go_wp2_with (at_builtin; apply stop)
  refine on (wpList_append_sep T rfl _ _ rfl rfl (H3.out.drop_alloc (.cells #[.int .i64 (width : Int)] 3)) rfl (reads_nat1 w3 width) (nv_oneCell [width]) (by unfold maxLen; omega) (by omega) ?_)
  intro v4 w4 h4 _
  have h4 := H2.out _ _ h4
  obtain ⟨a4, c4, rfl⟩ := h4.reads.sub
  have H4 := Lib.hid (St.own_nil 3 1 h4); clear h4 H3 HL1 HX1 HRG H
  go_wp2_with fail
  go_loopw [6, 7, 29] (fun vo vs vi wr => ∃ (k was : Nat) (acc : List Nat) (ao : Option Addr) (co : Nat), k ≤ L.length ∧ vi = .int .i64 k ∧ vo = .slice ao acc.length co ∧ vs = .int .i64 was ∧ was = (if k = 0 then 0 else L.getD (k - 1) 0) ∧ was ≤ width ∧ acc.length = k ∧ acc ++ difF was (L.drop k) = res ∧ St w0 wr (own 3 1 (.slice ao acc.length co) acc.length (acc.map nv) * (own 3 1 (.slice a4 L.length c4) L.length (L.map nv) * F))) (fun _ _ vi _ => L.length - (intOf vi).toNat)
  case atStart => exact ⟨0, 0, [], none, 0, by omega, rfl, rfl, rfl, rfl, by omega, rfl, HDL.out, H4.out⟩
  case round =>
    clear H4
    obtain ⟨k, was, acc, ao, co, hk, rfl, rfl, rfl, hwas, hww, hal, hall, hst⟩ := hrel
    by_cases hkn : k < L.length
    · obtain ⟨g, o, rfl, e1⟩ := hst.right.reads.at_ hkn
      have hx := List.getElem?_eq_getElem hkn
      rw [List.getElem?_map, hx] at e1
      simp only [Option.map_some, nv] at e1
      rw [List.drop_eq_getElem_cons hkn, difF, List.append_cons] at hall
      have hxw := (HMO.out k hkn).1
      have hwx : was ≤ L[k] := by
        rw [hwas]
        split
        · omega
        · exact (HMO.out k hkn).2 _ (by omega)
      have hnx : L[k] = (if k + 1 = 0 then 0 else L.getD (k + 1 - 1) 0) := by
        rw [if_neg (by omega), Nat.add_sub_cancel, List.getD_eq_getElem?_getD, hx]; rfl
      have hkl : (k : Int) < L.length := by omega
      clear hx hwas
      generalize L[k] = x at *
      have hsub : (x : Int) - was = ((x - was : Nat) : Int) := by omega
      have hsw : x - was ≤ 32768 := by omega
      generalize x - was = d at *
      have HALL := Lib.hid hall; have HNX := Lib.hid hnx; have HST := Lib.hid hst; have HAL := Lib.hid hal
      have haln : acc.length ≤ 1000001 := by omega
      clear hall hnx hst hal
      go_wp2_with (at_builtin; apply stop)
      refine on (wpList_append_sep T rfl _ _ rfl rfl (HST.out.drop_alloc (.cells #[.int .i64 (d : Int)] 3)) rfl (reads_nat1 wr d) (nv_oneCell [d]) (by unfold maxLen; omega) (by omega) ?_)
      intro v5 w5 h5 _
      have h5 : St w0 w5 (own 3 1 v5 (acc ++ [d]).length ((acc ++ [d]).map nv) * (own 3 1 (.slice (some ⟨g, o, none⟩) L.length c4) L.length (L.map nv) * F)) := by
        rw [List.length_append, List.map_append]; exact h5
      obtain ⟨aN, cN, rfl⟩ := h5.reads.sub
      have hle : (acc ++ [d]).length = acc.length + 1 := by simp
      generalize acc ++ [d] = acc2 at *
      have H5 := Lib.hid h5; clear h5
      rw [hle]
      have HLE := Lib.hid hle; clear hle
      go_wp2_with fail
      refine ⟨⟨k + 1, x, acc2, aN, cN, by omega, by go_num, by rw [HLE.out], rfl, HNX.out, hxw, by rw [HLE.out, HAL.out], HALL.out, H5.out⟩, by simp [intOf]; omega⟩
    · obtain rfl : k = L.length := by omega
      rw [List.drop_length, difF, List.append_nil] at hall
      subst hall
      have hst2 := (hst.perm (star_left_comm _ _ _)).right
      have HST := Lib.hid hst2; clear hst hst2 hal
      go_wp2_with fail
      go_ret2
      exact ⟨_, rfl, HST.out⟩
#print axioms right_any
#print axioms same_any
#print axioms changes_any
#print axioms next_any
#print axioms rnext_any
#print axioms toggle_any
#print axioms lengths_any
end Go.Proofs.YtdjoigobmmaaiaaDoor
