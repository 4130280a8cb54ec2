/-
  The document's canonical words of lengths (package mezzotintref08).
-/
import Derived.Test.YtddifndfppilkaaGreatInfF
import Derived.Test.YtddifndfppilkaaGreatHufR
namespace Go.Proofs.YtddifndfppilkaaGreat
open Go.RowKit Go.Mz
set_option linter.unusedVariables false
set_option linter.unusedSimpArgs false
set_option maxRecDepth 100000

theorem sum_snoc (l : List Nat) (n : Nat) : (l ++ [n]).sum = l.sum + n := by simp
theorem alone_take (l : List Nat) : ∀ k, k ≤ l.length → (usedL (l.take k) = 0 → (l.take k).sum = 0 ∧ longL (l.take k) = 0) ∧ (usedL (l.take k) = 1 → (l.take k).sum = longL (l.take k) ∧ 1 ≤ longL (l.take k)) := by
  intro k
  induction k with
  | zero => intro _; simp [usedL, longL]
  | succ k ih =>
    intro hk
    have htk : l.take (k + 1) = l.take k ++ [l[k]] := by rw [List.take_add_one, List.getElem?_eq_getElem (by omega)]; rfl
    obtain ⟨h1, h2⟩ := ih (by omega)
    rw [htk, usedL_snoc, longL_snoc, sum_snoc]
    generalize l[k] = n
    by_cases hn : 0 < n
    · rw [if_pos hn]
      refine ⟨fun h => by omega, fun h => ?_⟩
      obtain ⟨a, b⟩ := h1 (by omega)
      rw [a, b, Nat.max_eq_right (by omega)]
      omega
    · rw [if_neg hn, show n = 0 by omega]
      refine ⟨fun h => ?_, fun h => ?_⟩
      · obtain ⟨a, b⟩ := h1 (by omega)
        rw [a, b]; exact ⟨rfl, rfl⟩
      · obtain ⟨a, b⟩ := h2 (by omega)
        rw [Nat.max_eq_left (by omega)]
        omega
theorem alone_iff (l : List Nat) : (usedL l = 0 ∨ usedL l = 1 ∧ l.sum = 1) ↔ ¬ (1 < usedL l ∨ 1 < longL l) := by
  have := alone_take l l.length (Nat.le_refl _)
  rw [List.take_length] at this
  obtain ⟨h1, h2⟩ := this
  constructor
  · rintro (h | ⟨h, hs⟩)
    · have := h1 h; omega
    · have := h2 h; omega
  · intro h
    rcases (show usedL l = 0 ∨ usedL l = 1 by omega) with h3 | h3
    · exact .inl h3
    · have := h2 h3; exact .inr ⟨h3, by omega⟩
def rhow (full lone : Bool) : Nat := if full then (if lone then 1 else 0) else 2
def RWordsR (r : Nat ⊕ List (List Nat)) (w0 w' : World) (F : SProp) (e : Ending) : Prop :=
  match r with
  | .inl er => er ≠ 0 ∧ e = .returned (.tuple #[.slice none 0 0, .int .i64 er]) ∧ St w0 w' F
  | .inr W => ∃ v, e = .returned (.tuple #[v, .int .i64 0]) ∧ St w0 w' (own 9 1 v W.length (W.map txv) * F)

set_option maxHeartbeats 40000000 in
theorem rwords_any {w0 w : World} {F : SProp} (h : St w0 w F) (l : List Nat) (full lone : Bool) (hl : l.length ≤ 900) (hl2 : ∀ n ∈ l, n ≤ 1000) {v : Value} (hv : Stb w0 F (fun w => Reads w 1 v l.length (nvs l))) :
    Calls Tryz.prog 35 #[v, .bool full, .bool lone] w fun e w' => RWordsR (wordsF l (rhow full lone)) w0 w' F e := by
  have hlen : (ofN l).length = l.length := by simp [ofN]
  have CV := rcanon_any h (ofN l) (v := v) (by rw [hlen, ofN_iv]; exact hv) (by omega)
  have CF := canon_casesQ (ofN l)
  have hW : wordsF l (rhow full lone) = if (canonI (ofN l)).2.2 ≠ 0 then .inl (canonI (ofN l)).2.2 else if (canonI (ofN l)).2.1 = false ∧ (rhow full lone = 0 ∨ rhow full lone = 1 ∧ (1 < usedL l ∨ 1 < longL l)) then .inl 3 else .inr (canonI (ofN l)).1 := rfl
  have HW := Lib.hid hW; clear hW
  obtain ⟨a1, c1, rfl⟩ := (hv w h).sub
  generalize canonI (ofN l) = R at *
  obtain ⟨W, fu, er⟩ := R
  simp only at CV CF HW
  have HC := Lib.hid CV; clear CV
  have HV := Lib.hid hv; clear hv
  have H := Lib.hid h; clear h
  rcases CF with ⟨her, rfl⟩ | ⟨l', hl', hok, h30, hE⟩
  · have he' : (er : Int) ≠ 0 := by omega
    go_enter Tryz.func35, Tryz.ntmps35
    go_wp2_with fail
    refine HC.out.mono ?_
    rintro e w2 ⟨v2, rfl, h2⟩
    obtain ⟨a2, c2, rfl⟩ := h2.reads.sub
    have H2 := Lib.hid h2; clear h2
    go_wp2_with fail
    go_ret2
    rw [HW.out, if_pos her]
    exact ⟨her, rfl, H2.out.right⟩
  have hWW : er = 0 := by
    injection hE with e1 e2
    injection e2 with e2 e3
  subst hWW
  rw [if_neg (by decide)] at HW
  clear hE hok h30 hl'
  have AL := Lib.hid (alone_iff l)
  have hsl : ∀ k, k ≤ l.length → (l.take k).sum ≤ 1000 * k := by
    intro k
    induction k with
    | zero => intro _; simp
    | succ k ih =>
      intro hk
      have htk : l.take (k + 1) = l.take k ++ [l[k]] := by rw [List.take_add_one, List.getElem?_eq_getElem (by omega)]; rfl
      have := ih (by omega)
      have := hl2 l[k] (List.getElem_mem _)
      rw [htk, sum_snoc]; omega
  have HSL := Lib.hid hsl; clear hsl
  go_enter Tryz.func35, Tryz.ntmps35
  go_wp2_with fail
  refine HC.out.mono ?_
  rintro e w2 ⟨v2, rfl, h2⟩
  obtain ⟨a2, c2, rfl⟩ := h2.reads.sub
  have H2 := Lib.hid h2; clear h2 HC H
  go_wp2_with fail
  go_loopw [11, 12, 13] (fun vs vu vi wr => ∃ k : Nat, k ≤ l.length ∧ vi = .int .i64 k ∧ vu = .int .i64 (usedL (l.take k) : Nat) ∧ vs = .int .i64 ((l.take k).sum : Nat) ∧ St w0 wr (own 9 1 (.slice a2 W.length c2) W.length (W.map txv) * F)) (fun _ _ vi _ => l.length - (intOf vi).toNat)
  case atStart => exact ⟨0, by omega, rfl, rfl, rfl, H2.out⟩
  case round =>
    clear H2
    obtain ⟨k, hk, rfl, rfl, rfl, hst⟩ := hrel
    by_cases hkn : k < l.length
    · obtain ⟨g1, o1, rfl, e1⟩ := (HV.out wr hst.right).at_ hkn
      have hx := List.getElem?_eq_getElem hkn
      have hn1 := hl2 l[k] (List.getElem_mem _)
      have hul2 := usedL_le (l.take k)
      have hsk := HSL.out k hk
      rw [List.length_take] at hul2
      have htk : l.take (k + 1) = l.take k ++ [l[k]] := by rw [List.take_add_one, hx]; rfl
      rw [nvs, List.getElem?_map, hx] at e1
      simp only [Option.map_some, nv] at e1
      have HU := Lib.hid (show usedL (l.take (k + 1)) = usedL (l.take k) + (if 0 < l[k] then 1 else 0) by rw [htk, usedL_snoc])
      have HL := Lib.hid (show (l.take (k + 1)).sum = (l.take k).sum + l[k] by rw [htk, sum_snoc])
      clear htk hx
      have HST := Lib.hid hst; clear hst
      have hk2 : (k : Int) < l.length := by omega
      generalize l[k] = n at *
      generalize usedL (l.take k) = uu at *
      generalize (l.take k).sum = ss at *
      have hss : ss ≤ 900000 := by omega
      by_cases hn0 : 0 < n
      · have hn2 : 0 < (n : Int) := by omega
        rw [if_pos hn0] at HU
        clear hn0
        go_wp2_with fail
        exact ⟨⟨k + 1, by omega, by go_num, by rw [HU.out]; go_num, by rw [HL.out]; go_num, HST.out⟩, by simp [intOf]; omega⟩
      · have hn2 : ¬ 0 < (n : Int) := by omega
        rw [if_neg hn0, Nat.add_zero] at HU
        clear hn0
        go_wp2_with fail
        exact ⟨⟨k + 1, by omega, by go_num, by rw [HU.out]; first | rfl | go_num, by rw [HL.out]; go_num, HST.out⟩, by simp [intOf]; omega⟩
    · obtain rfl : k = l.length := by omega
      rw [List.take_length]
      have HST := Lib.hid hst; clear hst
      have good : ∀ (hno : ¬ (fu = false ∧ (rhow full lone = 0 ∨ rhow full lone = 1 ∧ (1 < usedL l ∨ 1 < longL l)))), RWordsR (wordsF l (rhow full lone)) w0 wr F (.returned (.tuple #[.slice a2 W.length c2, .int .i64 0])) := fun hno => by
        rw [HW.out, if_neg hno]; exact ⟨_, rfl, HST.out⟩
      have bad : ∀ (hy : fu = false ∧ (rhow full lone = 0 ∨ rhow full lone = 1 ∧ (1 < usedL l ∨ 1 < longL l))), RWordsR (wordsF l (rhow full lone)) w0 wr F (.returned (.tuple #[.slice none 0 0, .int .i64 3])) := fun hy => by
        rw [HW.out, if_pos hy]; exact ⟨by decide, rfl, HST.out.right⟩
      have FINB := Lib.hid good; have BADB := Lib.hid bad; clear good bad HW
      generalize hug : usedL l = uu at *
      generalize hss : l.sum = ss at *
      clear hug hss
      have halt : (uu = 0 ∨ uu = 1 ∧ ss = 1) ∨ ¬ (uu = 0 ∨ uu = 1 ∧ ss = 1) := Classical.em _
      rcases halt with hal | hal
      · have hno := AL.out.1 hal
        have HN := Lib.hid hno; clear hno
        rcases hal with rfl | ⟨rfl, rfl⟩
        all_goals
          cases full <;> cases lone <;> cases fu
          · go_wp2_with fail
            go_ret2
            exact FINB.out (fun hh => absurd hh.2 (by simp [rhow]))
          · go_wp2_with fail
            go_ret2
            exact FINB.out (fun hh => absurd hh.2 (by simp [rhow]))
          · go_wp2_with fail
            go_ret2
            exact FINB.out (fun hh => absurd hh.2 (by simp [rhow]))
          · go_wp2_with fail
            go_ret2
            exact FINB.out (fun hh => absurd hh.2 (by simp [rhow]))
          · go_wp2_with fail
            go_ret2
            exact BADB.out ⟨by trivial, .inl rfl⟩
          · go_wp2_with fail
            go_ret2
            exact FINB.out (fun hh => absurd hh.1 (by simp))
          · go_wp2_with fail
            go_ret2
            exact FINB.out (fun hh => HN.out (hh.2.elim (fun h => absurd h (by simp [rhow])) (fun h => h.2)))
          · go_wp2_with fail
            go_ret2
            exact FINB.out (fun hh => absurd hh.1 (by simp))
      · have hyes : 1 < uu ∨ 1 < longL l := Classical.byContradiction fun hc => hal (AL.out.2 hc)
        have HY := Lib.hid hyes; clear hyes
        by_cases hu1 : uu = 1
        · subst hu1
          have hs1 : ¬ (ss : Int) = 1 := by omega
          have hs2 : ((ss : Int) == 1) = false := by rw [beq_eq_false_iff_ne]; exact hs1
          clear hal
          cases full <;> cases lone <;> cases fu
          · go_wp2_with fail
            go_ret2
            exact FINB.out (fun hh => absurd hh.2 (by simp [rhow]))
          · go_wp2_with fail
            go_ret2
            exact FINB.out (fun hh => absurd hh.2 (by simp [rhow]))
          · go_wp2_with fail
            go_ret2
            exact FINB.out (fun hh => absurd hh.2 (by simp [rhow]))
          · go_wp2_with fail
            go_ret2
            exact FINB.out (fun hh => absurd hh.2 (by simp [rhow]))
          · go_wp2_with fail
            go_ret2
            exact BADB.out ⟨by trivial, .inl rfl⟩
          · go_wp2_with fail
            go_ret2
            exact FINB.out (fun hh => absurd hh.1 (by simp))
          · go_wp2_with fail
            go_ret2
            exact BADB.out ⟨by trivial, .inr ⟨rfl, HY.out⟩⟩
          · go_wp2_with fail
            go_ret2
            exact FINB.out (fun hh => absurd hh.1 (by simp))
        · have hu0 : ¬ (uu : Int) = 0 := by omega
          have hu2 : ¬ (uu : Int) = 1 := by omega
          have hu3 : ((uu : Int) == 1) = false := by rw [beq_eq_false_iff_ne]; exact hu2
          have hu4 : ((uu : Int) == 0) = false := by rw [beq_eq_false_iff_ne]; exact hu0
          clear hal hu1
          cases full <;> cases lone <;> cases fu
          · go_wp2_with fail
            go_ret2
            exact FINB.out (fun hh => absurd hh.2 (by simp [rhow]))
          · go_wp2_with fail
            go_ret2
            exact FINB.out (fun hh => absurd hh.2 (by simp [rhow]))
          · go_wp2_with fail
            go_ret2
            exact FINB.out (fun hh => absurd hh.2 (by simp [rhow]))
          · go_wp2_with fail
            go_ret2
            exact FINB.out (fun hh => absurd hh.2 (by simp [rhow]))
          · go_wp2_with fail
            go_ret2
            exact BADB.out ⟨by trivial, .inl rfl⟩
          · go_wp2_with fail
            go_ret2
            exact FINB.out (fun hh => absurd hh.1 (by simp))
          · go_wp2_with fail
            go_ret2
            exact BADB.out ⟨by trivial, .inr ⟨rfl, HY.out⟩⟩
          · go_wp2_with fail
            go_ret2
            exact FINB.out (fun hh => absurd hh.1 (by simp))
end Go.Proofs.YtddifndfppilkaaGreat
