/-
  The document's reading of a word (package mezzotintref06).
-/
import Derived.Test.YtddifndfppilkaaTrie
import Derived.Test.YtddifndfppilkaaCanonM
namespace Go.Proofs.Ytddifndfppilkaa
open Go.RowKit Go.Mz
set_option linter.unusedVariables false
set_option linter.unusedSimpArgs false
set_option maxRecDepth 100000

set_option maxHeartbeats 4000000 in
theorem begins_any (p s : ByteArray) (w : World) :
    Calls Try.prog 110 #[.string p, .string s] w fun e w' => e = .returned (.bool (Lib.hasPrefix s.data.toList p.data.toList)) ∧ w' = w := by
  rw [← Lib.hasPrefix_of_take, ← Lib.size_eq, ← Lib.size_eq]
  by_cases h : p.size ≤ s.size
  · have h2 : (p.size : Int) ≤ s.size := by omega
    go_enter Try.func110, Try.ntmps110
    go_wp2
    go_ret
    refine ⟨?_, rfl⟩
    show Ending.returned (Value.bool ((s.extract 0 p.size).toList == p.toList)) = _
    rw [Lib.extract_toList, Lib.toList_data]
    simp [h]
  · have h2 : ¬ (p.size : Int) ≤ s.size := by omega
    go_enter Try.func110, Try.ntmps110
    go_wp2
    go_ret
    refine ⟨?_, rfl⟩
    show Ending.returned (Value.bool false) = _
    simp [h]
theorem tx_pre_iff {l m : List Nat} (hl : Bit l) (hm : Bit m) : Lib.hasPrefix (tx m) (tx l) = l.isPrefixOf m := by
  rw [Lib.hasPrefix, Bool.eq_iff_iff, List.isPrefixOf_iff_prefix, List.isPrefixOf_iff_prefix]
  exact ⟨tx_prefix hl hm, fun ⟨r, h⟩ => ⟨tx r, by rw [← tx_append, h]⟩⟩
theorem find_first {W : List (List Nat)} {u : List Nat} {i : Nat} (h : W[i]? = some u) (hu : ∀ v ∈ W.take i, v ≠ u) : W.findIdx? (fun w => w == u) = some i := by
  rw [List.findIdx?_eq_some_iff_getElem]
  obtain ⟨hi, e⟩ := List.getElem?_eq_some_iff.1 h
  refine ⟨hi, by rw [e]; simp, fun j hj => ?_⟩
  intro hc
  have hc2 : W[j] = u := by simpa using hc
  refine hu W[j] ?_ hc2
  rw [List.mem_take_iff_getElem]
  exact ⟨j, by omega, rfl⟩
theorem find_nil {W : List (List Nat)} {u : List Nat} (hu : ∀ v ∈ W, v ≠ u) : W.findIdx? (fun w => w == u) = none := by
  rw [List.findIdx?_eq_none_iff]
  intro x hx
  simpa using hu x hx
def rdV (r : Nat × (Nat ⊕ Nat)) (p : Nat) : Value :=
  match r.2 with
  | .inl i => .tuple #[.int .i64 i, .int .i64 (p + r.1 : Nat), .int .i64 0]
  | .inr e => .tuple #[.int .i64 0, .int .i64 (p + r.1 : Nat), .int .i64 e]

set_option maxHeartbeats 40000000 in
theorem hread_any {w : World} {W : List (List Nat)} {t : List Nat} {vw : Value} (hr : Reads w 1 vw W.length (W.map txv)) (hb : ∀ v ∈ W, Bit v) (ht : Bit t) (p : Nat) (hp : p ≤ t.length) (hl : t.length ≤ 1000000000) (hW : W.length ≤ 100000) :
    Calls Try.prog 95 #[vw, .string ⟨(tx t).toArray⟩, .int .i64 p] w fun e w' => e = .returned (rdV (rdW W [] (t.drop p)) p) ∧ w' = w := by
  obtain ⟨aw, cw, rfl⟩ := hr.sub
  generalize hR : rdW W [] (t.drop p) = R at *
  have HR := Lib.hid hR; clear hR
  have HRD := Lib.hid hr; clear hr
  have hsz : (ByteArray.mk (tx t).toArray).size = t.length := by rw [Lib.size_eq]; simp
  have hex : ∀ n, p + n ≤ t.length → (ByteArray.mk (tx t).toArray).extract p (p + n) = ⟨(tx ((t.drop p).take n)).toArray⟩ := fun n hn => by
    rw [ByteArray.extract_mk]
    congr 1
    simp [tx]
  have HEX := Lib.hid hex; clear hex
  generalize hsb : ByteArray.mk (tx t).toArray = sb at *
  have HSB := Lib.hid hsb; clear hsb
  go_enter Try.func95, Try.ntmps95
  go_wp2_with fail
  go_loop [9] (fun vi => ∃ n : Nat, 1 ≤ n ∧ p + n ≤ t.length + 1 ∧ vi = .int .i64 n ∧ rdW W ((t.drop p).take (n - 1)) ((t.drop p).drop (n - 1)) = R) (fun vi => t.length + 1 - p - (intOf vi).toNat)
  case atStart => exact ⟨1, by omega, by omega, rfl, by simpa using HR.out⟩
  case round =>
    obtain ⟨n, hn1, hn2, rfl, hrd⟩ := hrel
    by_cases hin : p + n ≤ t.length
    · have hdl : n - 1 < (t.drop p).length := by rw [List.length_drop]; omega
      have e1 : (t.drop p).drop (n - 1) = (t.drop p)[n - 1] :: (t.drop p).drop n := by
        rw [List.drop_eq_getElem_cons hdl, show n - 1 + 1 = n by omega]
      have e2 : (t.drop p).take n = (t.drop p).take (n - 1) ++ [(t.drop p)[n - 1]] := by
        have := List.take_add_one (l := t.drop p) (i := n - 1)
        rw [show n - 1 + 1 = n by omega, List.getElem?_eq_getElem hdl] at this
        exact this
      have hl1 : ((t.drop p).take (n - 1)).length + 1 = n := by rw [List.length_take]; omega
      rw [e1, rdW, ← e2, hl1] at hrd
      have hbs : Bit ((t.drop p).take n) := (ht.drop p).take n
      have hsl := HEX.out n hin
      have hul : ((t.drop p).take n).length = n := by rw [List.length_take, List.length_drop]; omega
      have HNX := Lib.hid (show (t.drop p).take n = (t.drop p).take ((n + 1) - 1) ∧ (t.drop p).drop n = (t.drop p).drop ((n + 1) - 1) from ⟨rfl, rfl⟩)
      have HRD1 := Lib.hid hrd; clear hrd e1 e2 hl1
      generalize (t.drop p).take n = u at *
      have hpn : (p : Int) + n ≤ t.length := by omega
      have hp0 : 0 ≤ (p : Int) + n := by omega
      have hune : u ≠ [] := fun h => by rw [h] at hul; simp at hul; omega
      have HUL := Lib.hid hul; clear hul hdl
      go_wp2_with fail
      go_loop [11, 12] (fun vs vi => ∃ i : Nat, i ≤ W.length ∧ vi = .int .i64 i ∧ vs = .bool ((W.take i).any (fun v => u.isPrefixOf v)) ∧ ∀ v ∈ W.take i, v ≠ u) (fun _ vi => W.length - (intOf vi).toNat)
      case atStart => exact ⟨0, by omega, rfl, rfl, by simp⟩
      case round =>
        obtain ⟨i, hi, rfl, rfl, hall⟩ := hrel
        by_cases hiW : i < W.length
        · obtain ⟨g, o, rfl, e1⟩ := HRD.out.at_ hiW
          have hx := List.getElem?_eq_getElem hiW
          have hbv := hb W[i] (List.getElem_mem _)
          rw [List.getElem?_map, hx] at e1
          simp only [Option.map_some, txv] at e1
          have htk : W.take (i + 1) = W.take i ++ [W[i]] := by rw [List.take_add_one, hx]; rfl
          have hi2 : (i : Int) < W.length := by omega
          have HX := Lib.hid hx; have HTK := Lib.hid htk; have HALL := Lib.hid hall; clear hx htk hall
          generalize W[i] = v at *
          by_cases hvu : v = u
          · subst hvu
            have hF := HRD1.out
            rw [find_first HX.out HALL.out] at hF
            have HF := Lib.hid hF; clear hF
            generalize (W.take i).any (fun x => v.isPrefixOf x) = b at *
            go_wp2_with fail
            go_ret3
            rw [← HF.out]
            exact ⟨rfl, rfl⟩
          · have hne : ¬ (ByteArray.mk (tx v).toArray).toList = (ByteArray.mk (tx u).toArray).toList := fun h => by
              rw [ByteArray.toList_eq, ByteArray.toList_eq] at h
              exact hvu (tx_inj hbv hbs h)
            have hneb : ((ByteArray.mk (tx v).toArray).toList == tx u) = false := by
              rw [beq_eq_false_iff_ne, ByteArray.toList_eq]
              exact fun h => hvu (tx_inj hbv hbs h)
            have HALL2 := Lib.hid (show ∀ x ∈ W.take (i + 1), x ≠ u from fun x hx => by
              rw [HTK.out] at hx
              rcases List.mem_append.1 hx with hx | hx
              · exact HALL.out x hx
              · rw [List.mem_singleton] at hx; rw [hx]; exact hvu)
            have HANY := Lib.hid (show (W.take (i + 1)).any (fun x => u.isPrefixOf x) = ((W.take i).any (fun x => u.isPrefixOf x) || u.isPrefixOf v) by rw [HTK.out, List.any_append]; simp)
            generalize (W.take i).any (fun x => u.isPrefixOf x) = b at *
            cases b
            · by_cases hv0 : v = []
              · subst hv0
                have hpf : u.isPrefixOf ([] : List Nat) = false := by
                  cases u with
                  | nil => exact absurd rfl hune
                  | cons a u => rfl
                rw [hpf] at HANY
                clear hvu hne hneb
                have hne2 : ¬ [] = (ByteArray.mk (tx u).toArray).toList := fun h => by
                  rw [ByteArray.toList_eq] at h
                  exact hune (by simpa [tx] using h.symm)
                have hne3 : (tx u).isEmpty = false := by
                  cases u with
                  | nil => exact absurd rfl hune
                  | cons a u => rfl
                have hst : (ByteArray.mk (tx ([] : List Nat)).toArray) = ⟨#[]⟩ := rfl
                rw [hst] at e1
                go_wp2_with fail
                go_round
                case rel => exact ⟨i + 1, by omega, by go_num, by rw [HANY.out]; rfl, HALL2.out⟩
                case measure => simp [intOf]; omega
              · have hve : ¬ (ByteArray.mk (tx v).toArray).toList = [] := fun h => by
                  rw [ByteArray.toList_eq] at h
                  exact hv0 (by simpa [tx] using h)
                have C := begins_any (ByteArray.mk (tx u).toArray) (ByteArray.mk (tx v).toArray) w
                rw [tx_pre_iff hbs hbv] at C
                have HC := Lib.hid C; clear C
                generalize u.isPrefixOf v = pf at *
                generalize ByteArray.mk (tx v).toArray = sv at *
                go_wp2_with fail
                refine HC.out.mono ?_
                rintro e w' ⟨rfl, rfl⟩
                go_wp2_with fail
                go_round
                case rel => exact ⟨i + 1, by omega, by go_num, by rw [HANY.out]; simp [hve], HALL2.out⟩
                case measure => simp [intOf]; omega
            · generalize ByteArray.mk (tx v).toArray = sv at *
              go_wp2_with fail
              go_round
              case rel => exact ⟨i + 1, by omega, by go_num, by rw [HANY.out]; simp, HALL2.out⟩
              case measure => simp [intOf]; omega
        · obtain rfl : i = W.length := by omega
          rw [List.take_length] at hall ⊢
          have hF := HRD1.out
          rw [find_nil hall] at hF
          simp only at hF
          clear hall
          have HF := Lib.hid hF; clear hF
          generalize W.any (fun v => u.isPrefixOf v) = b at *
          cases b
          · have hF := HF.out
            rw [if_neg (by simp)] at hF
            have HFF := Lib.hid hF; clear hF HF
            go_wp2_with fail
            go_ret3
            rw [← HFF.out]
            exact ⟨rfl, rfl⟩
          · have hF := HF.out
            rw [if_pos rfl] at hF
            have HFF := Lib.hid hF; clear hF HF
            go_wp2_with fail
            go_round
            case rel => exact ⟨n + 1, by omega, by omega, by go_num, by rw [← HNX.out.1, ← HNX.out.2]; exact HFF.out⟩
            case measure => simp [intOf]; omega
    · have hdl : (t.drop p).drop (n - 1) = [] := List.drop_eq_nil_of_le (by rw [List.length_drop]; omega)
      rw [hdl, rdW, List.length_take, List.length_drop] at hrd
      have hpn : ¬ (p : Int) + n ≤ t.length := by omega
      have HF := Lib.hid hrd; clear hrd
      have HE := Lib.hid (show p + min (n - 1) (t.length - p) = t.length by omega)
      go_wp2_with fail
      go_ret3
      rw [← HF.out, rdV]
      simp only
      rw [HE.out]
      exact ⟨rfl, trivial⟩
end Go.Proofs.Ytddifndfppilkaa
