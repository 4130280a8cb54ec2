/-
  The document's reading of a word (package mezzotintref06).
  The document's state of reading (package mezzotintref08): numbers and words.
  The document's numbers that words tell (package mezzotintref08).
-/
import Derived.Test.YtddifndfppilkaaGreatTrie
import Derived.Test.YtddifndfppilkaaGreatCanonM
import Derived.Test.YtddifndfppilkaaGreatInfM
import Derived.Test.YtddifndfppilkaaGreatRef02
import Derived.Test.YtddifndfppilkaaGreatHufQ
import Derived.Test.YtddifndfppilkaaGreatInfR
import Derived.Test.YtddifndfppilkaaGreatInfC
import Derived.RegionTactic
import Derived.BigRegion
namespace Go.Proofs.YtddifndfppilkaaGreat
open Go.RowKit Go.Mz
set_option linter.unusedVariables false
set_option linter.unusedSimpArgs false
set_option maxRecDepth 100000

set_option maxHeartbeats 4000000 in
theorem begins_any (p s : ByteArray) (w : World) :
    Calls Tryz.prog 95 #[.string p, .string s] w fun e w' => e = .returned (.bool (Lib.hasPrefix s.data.toList p.data.toList)) ∧ w' = w := by
  rw [← Lib.hasPrefix_of_take, ← Lib.size_eq, ← Lib.size_eq]
  by_cases h : p.size ≤ s.size
  · have h2 : (p.size : Int) ≤ s.size := by omega
    go_enter Tryz.func95, Tryz.ntmps95
    go_wp2
    go_ret
    refine ⟨?_, rfl⟩
    show Ending.returned (Value.bool ((s.extract 0 p.size).toList == p.toList)) = _
    rw [Lib.extract_toList, Lib.toList_data]
    simp [h]
  · have h2 : ¬ (p.size : Int) ≤ s.size := by omega
    go_enter Tryz.func95, Tryz.ntmps95
    go_wp2
    go_ret
    refine ⟨?_, rfl⟩
    show Ending.returned (Value.bool false) = _
    simp [h]
theorem tx_pre_iff {l m : List Nat} (hl : Bit l) (hm : Bit m) : Lib.hasPrefix (tx m) (tx l) = l.isPrefixOf m := by
  rw [Lib.hasPrefix, Bool.eq_iff_iff, List.isPrefixOf_iff_prefix, List.isPrefixOf_iff_prefix]
  exact ⟨tx_prefix hl hm, fun ⟨r, h⟩ => ⟨tx r, by rw [← tx_append, h]⟩⟩
theorem find_first {W : List (List Nat)} {u : List Nat} {i : Nat} (h : W[i]? = some u) (hu : ∀ v ∈ W.take i, v ≠ u) : W.findIdx? (fun w => w == u) = some i := by
  rw [List.findIdx?_eq_some_iff_getElem]
  obtain ⟨hi, e⟩ := List.getElem?_eq_some_iff.1 h
  refine ⟨hi, by rw [e]; simp, fun j hj => ?_⟩
  intro hc
  have hc2 : W[j] = u := by simpa using hc
  refine hu W[j] ?_ hc2
  rw [List.mem_take_iff_getElem]
  exact ⟨j, by omega, rfl⟩
theorem find_nil {W : List (List Nat)} {u : List Nat} (hu : ∀ v ∈ W, v ≠ u) : W.findIdx? (fun w => w == u) = none := by
  rw [List.findIdx?_eq_none_iff]
  intro x hx
  simpa using hu x hx
def rdV (r : Nat × (Nat ⊕ Nat)) (p : Nat) : Value :=
  match r.2 with
  | .inl i => .tuple #[.int .i64 i, .int .i64 (p + r.1 : Nat), .int .i64 0]
  | .inr e => .tuple #[.int .i64 0, .int .i64 (p + r.1 : Nat), .int .i64 e]

set_option maxHeartbeats 40000000 in
theorem hread_any {w : World} {W : List (List Nat)} {t : List Nat} {vw : Value} (hr : Reads w 1 vw W.length (W.map txv)) (hb : ∀ v ∈ W, Bit v) (ht : Bit t) (p : Nat) (hp : p ≤ t.length) (hl : t.length ≤ 1000000000) (hW : W.length ≤ 100000) :
    Calls Tryz.prog 81 #[vw, .string ⟨(tx t).toArray⟩, .int .i64 p] w fun e w' => e = .returned (rdV (rdW W [] (t.drop p)) p) ∧ w' = w := by
  obtain ⟨aw, cw, rfl⟩ := hr.sub
  generalize hR : rdW W [] (t.drop p) = R at *
  have HR := Lib.hid hR; clear hR
  have HRD := Lib.hid hr; clear hr
  have hsz : (ByteArray.mk (tx t).toArray).size = t.length := by rw [Lib.size_eq]; simp
  have hex : ∀ n, p + n ≤ t.length → (ByteArray.mk (tx t).toArray).extract p (p + n) = ⟨(tx ((t.drop p).take n)).toArray⟩ := fun n hn => by
    rw [ByteArray.extract_mk]
    congr 1
    simp [tx]
  have HEX := Lib.hid hex; clear hex
  generalize hsb : ByteArray.mk (tx t).toArray = sb at *
  have HSB := Lib.hid hsb; clear hsb
  go_enter Tryz.func81, Tryz.ntmps81
  go_wp2_with fail
  go_loop [9] (fun vi => ∃ n : Nat, 1 ≤ n ∧ p + n ≤ t.length + 1 ∧ vi = .int .i64 n ∧ rdW W ((t.drop p).take (n - 1)) ((t.drop p).drop (n - 1)) = R) (fun vi => t.length + 1 - p - (intOf vi).toNat)
  case atStart => exact ⟨1, by omega, by omega, rfl, by simpa using HR.out⟩
  case round =>
    obtain ⟨n, hn1, hn2, rfl, hrd⟩ := hrel
    by_cases hin : p + n ≤ t.length
    · have hdl : n - 1 < (t.drop p).length := by rw [List.length_drop]; omega
      have e1 : (t.drop p).drop (n - 1) = (t.drop p)[n - 1] :: (t.drop p).drop n := by
        rw [List.drop_eq_getElem_cons hdl, show n - 1 + 1 = n by omega]
      have e2 : (t.drop p).take n = (t.drop p).take (n - 1) ++ [(t.drop p)[n - 1]] := by
        have := List.take_add_one (l := t.drop p) (i := n - 1)
        rw [show n - 1 + 1 = n by omega, List.getElem?_eq_getElem hdl] at this
        exact this
      have hl1 : ((t.drop p).take (n - 1)).length + 1 = n := by rw [List.length_take]; omega
      rw [e1, rdW, ← e2, hl1] at hrd
      have hbs : Bit ((t.drop p).take n) := (ht.drop p).take n
      have hsl := HEX.out n hin
      have hul : ((t.drop p).take n).length = n := by rw [List.length_take, List.length_drop]; omega
      have HNX := Lib.hid (show (t.drop p).take n = (t.drop p).take ((n + 1) - 1) ∧ (t.drop p).drop n = (t.drop p).drop ((n + 1) - 1) from ⟨rfl, rfl⟩)
      have HRD1 := Lib.hid hrd; clear hrd e1 e2 hl1
      generalize (t.drop p).take n = u at *
      have hpn : (p : Int) + n ≤ t.length := by omega
      have hp0 : 0 ≤ (p : Int) + n := by omega
      have hune : u ≠ [] := fun h => by rw [h] at hul; simp at hul; omega
      have HUL := Lib.hid hul; clear hul hdl
      go_wp2_with fail
      go_loop [11, 12] (fun vs vi => ∃ i : Nat, i ≤ W.length ∧ vi = .int .i64 i ∧ vs = .bool ((W.take i).any (fun v => u.isPrefixOf v)) ∧ ∀ v ∈ W.take i, v ≠ u) (fun _ vi => W.length - (intOf vi).toNat)
      case atStart => exact ⟨0, by omega, rfl, rfl, by simp⟩
      case round =>
        obtain ⟨i, hi, rfl, rfl, hall⟩ := hrel
        by_cases hiW : i < W.length
        · obtain ⟨g, o, rfl, e1⟩ := HRD.out.at_ hiW
          have hx := List.getElem?_eq_getElem hiW
          have hbv := hb W[i] (List.getElem_mem _)
          rw [List.getElem?_map, hx] at e1
          simp only [Option.map_some, txv] at e1
          have htk : W.take (i + 1) = W.take i ++ [W[i]] := by rw [List.take_add_one, hx]; rfl
          have hi2 : (i : Int) < W.length := by omega
          have HX := Lib.hid hx; have HTK := Lib.hid htk; have HALL := Lib.hid hall; clear hx htk hall
          generalize W[i] = v at *
          by_cases hvu : v = u
          · subst hvu
            have hF := HRD1.out
            rw [find_first HX.out HALL.out] at hF
            have HF := Lib.hid hF; clear hF
            generalize (W.take i).any (fun x => v.isPrefixOf x) = b at *
            go_wp2_with fail
            go_ret3
            rw [← HF.out]
            exact ⟨rfl, rfl⟩
          · have hne : ¬ (ByteArray.mk (tx v).toArray).toList = (ByteArray.mk (tx u).toArray).toList := fun h => by
              rw [ByteArray.toList_eq, ByteArray.toList_eq] at h
              exact hvu (tx_inj hbv hbs h)
            have hneb : ((ByteArray.mk (tx v).toArray).toList == tx u) = false := by
              rw [beq_eq_false_iff_ne, ByteArray.toList_eq]
              exact fun h => hvu (tx_inj hbv hbs h)
            have HALL2 := Lib.hid (show ∀ x ∈ W.take (i + 1), x ≠ u from fun x hx => by
              rw [HTK.out] at hx
              rcases List.mem_append.1 hx with hx | hx
              · exact HALL.out x hx
              · rw [List.mem_singleton] at hx; rw [hx]; exact hvu)
            have HANY := Lib.hid (show (W.take (i + 1)).any (fun x => u.isPrefixOf x) = ((W.take i).any (fun x => u.isPrefixOf x) || u.isPrefixOf v) by rw [HTK.out, List.any_append]; simp)
            generalize (W.take i).any (fun x => u.isPrefixOf x) = b at *
            cases b
            · by_cases hv0 : v = []
              · subst hv0
                have hpf : u.isPrefixOf ([] : List Nat) = false := by
                  cases u with
                  | nil => exact absurd rfl hune
                  | cons a u => rfl
                rw [hpf] at HANY
                clear hvu hne hneb
                have hne2 : ¬ [] = (ByteArray.mk (tx u).toArray).toList := fun h => by
                  rw [ByteArray.toList_eq] at h
                  exact hune (by simpa [tx] using h.symm)
                have hne3 : (tx u).isEmpty = false := by
                  cases u with
                  | nil => exact absurd rfl hune
                  | cons a u => rfl
                have hst : (ByteArray.mk (tx ([] : List Nat)).toArray) = ⟨#[]⟩ := rfl
                rw [hst] at e1
                go_wp2_with fail
                go_round
                case rel => exact ⟨i + 1, by omega, by go_num, by rw [HANY.out]; rfl, HALL2.out⟩
                case measure => simp [intOf]; omega
              · have hve : ¬ (ByteArray.mk (tx v).toArray).toList = [] := fun h => by
                  rw [ByteArray.toList_eq] at h
                  exact hv0 (by simpa [tx] using h)
                have C := begins_any (ByteArray.mk (tx u).toArray) (ByteArray.mk (tx v).toArray) w
                rw [tx_pre_iff hbs hbv] at C
                have HC := Lib.hid C; clear C
                generalize u.isPrefixOf v = pf at *
                generalize ByteArray.mk (tx v).toArray = sv at *
                go_wp2_with fail
                refine HC.out.mono ?_
                rintro e w' ⟨rfl, rfl⟩
                go_wp2_with fail
                go_round
                case rel => exact ⟨i + 1, by omega, by go_num, by rw [HANY.out]; simp [hve], HALL2.out⟩
                case measure => simp [intOf]; omega
            · generalize ByteArray.mk (tx v).toArray = sv at *
              go_wp2_with fail
              go_round
              case rel => exact ⟨i + 1, by omega, by go_num, by rw [HANY.out]; simp, HALL2.out⟩
              case measure => simp [intOf]; omega
        · obtain rfl : i = W.length := by omega
          rw [List.take_length] at hall ⊢
          have hF := HRD1.out
          rw [find_nil hall] at hF
          simp only at hF
          clear hall
          have HF := Lib.hid hF; clear hF
          generalize W.any (fun v => u.isPrefixOf v) = b at *
          cases b
          · have hF := HF.out
            rw [if_neg (by simp)] at hF
            have HFF := Lib.hid hF; clear hF HF
            go_wp2_with fail
            go_ret3
            rw [← HFF.out]
            exact ⟨rfl, rfl⟩
          · have hF := HF.out
            rw [if_pos rfl] at hF
            have HFF := Lib.hid hF; clear hF HF
            go_wp2_with fail
            go_round
            case rel => exact ⟨n + 1, by omega, by omega, by go_num, by rw [← HNX.out.1, ← HNX.out.2]; exact HFF.out⟩
            case measure => simp [intOf]; omega
    · have hdl : (t.drop p).drop (n - 1) = [] := List.drop_eq_nil_of_le (by rw [List.length_drop]; omega)
      rw [hdl, rdW, List.length_take, List.length_drop] at hrd
      have hpn : ¬ (p : Int) + n ≤ t.length := by omega
      have HF := Lib.hid hrd; clear hrd
      have HE := Lib.hid (show p + min (n - 1) (t.length - p) = t.length by omega)
      go_wp2_with fail
      go_ret3
      rw [← HF.out, rdV]
      simp only
      rw [HE.out]
      exact ⟨rfl, trivial⟩
end Go.Proofs.YtddifndfppilkaaGreat

namespace Go.Proofs.YtddifndfppilkaaGreat
open Go.RowKit Go.Mz
set_option linter.unusedVariables false
set_option linter.unusedSimpArgs false
set_option maxRecDepth 100000

theorem bodyPost_ret3c {P : Program} {fn : Func} {R : Ending → World → Prop} {x u v : Nat} {ty e : TypeId} {cs : Array Value} {fr : Nat × Nat} {b : Nat} {a : Act} {w : World} {d : TypeDesc} (h : fn.results = #[.cell x ty, .tmp u, .tmp v])
    (hx : a.tmps.getD x undef = .pointer (some ⟨b, 0, none⟩)) (hg : w.heap[b]? = some (.cells cs e fr)) (hu : P.underlying ty = some d) (hd : (match d with | .struct _ | .array _ _ => true | _ => false) = true) (hi : (P.info? ty).map (·.size) = some cs.size)
    (hf : a.defers = []) (hR : R (.returned (.tuple #[.agg cs, a.tmps.getD u undef, a.tmps.getD v undef])) w) : bodyPost P fn R .ret a w := by
  refine ⟨hf, _, ?_, hR⟩
  have hx' : a.tmps[x]?.getD undef = .pointer (some ⟨b, 0, none⟩) := by simpa using hx
  simp [results, h, hx', asAddr, run_loadVar_row w b e ty cs fr d hg hu hd hi]
theorem bodyPost_ret2c {P : Program} {fn : Func} {R : Ending → World → Prop} {x u : Nat} {ty e : TypeId} {cs : Array Value} {fr : Nat × Nat} {b : Nat} {a : Act} {w : World} {d : TypeDesc} (h : fn.results = #[.cell x ty, .tmp u])
    (hx : a.tmps.getD x undef = .pointer (some ⟨b, 0, none⟩)) (hg : w.heap[b]? = some (.cells cs e fr)) (hu : P.underlying ty = some d) (hd : (match d with | .struct _ | .array _ _ => true | _ => false) = true) (hi : (P.info? ty).map (·.size) = some cs.size)
    (hf : a.defers = []) (hR : R (.returned (.tuple #[.agg cs, a.tmps.getD u undef])) w) : bodyPost P fn R .ret a w := by
  refine ⟨hf, _, ?_, hR⟩
  have hx' : a.tmps[x]?.getD undef = .pointer (some ⟨b, 0, none⟩) := by simpa using hx
  simp [results, h, hx', asAddr, run_loadVar_row w b e ty cs fr d hg hu hd hi]

/-- A state's cells. -/
def rstC (sb : ByteArray) (p : Nat) (vo : Value) (most : Int) : Array Value := #[.string sb, .int .i64 (p : Int), vo, .int .i64 most]
def rst0 : Array Value := #[.string ⟨#[]⟩, .int .i64 0, .slice none 0 0, .int .i64 0]

set_option maxHeartbeats 4000000 in
theorem rnum_any {w0 w : World} {F : SProp} (h : St w0 w F) {t : List Nat} (ht : Bit t) (hl : t.length ≤ 1000000000) {p : Nat} (hp : p ≤ t.length) (n : Nat) (hn : n ≤ 31) {ao : Option Addr} {no co : Nat} {most : Int} {sb : ByteArray} (hsb : sb = ⟨(tx t).toArray⟩) {j : Int} (hj : j = n) :
    Calls Tryz.prog 32 #[.agg (rstC sb p (.slice ao no co) most), .int .i64 j] w fun e w' =>
      e = .returned (.tuple #[.agg (rstC sb (if t.length < p + n then p else p + n) (.slice ao no co) most), .int .i64 (if t.length < p + n then 0 else vl t p n : Nat), .int .i64 (if t.length < p + n then 2 else 0 : Nat)]) ∧ St w0 w' F := by
  subst hj
  obtain ⟨x, y, z, hrd⟩ : ∃ x y z, rdI t true p (n : Nat) = (x, y, z) := ⟨_, _, _, rfl⟩
  have hxyz : y = (if t.length < p + n then p else p + n) ∧ x = (if t.length < p + n then 0 else vl t p n) ∧ z = (if t.length < p + n then 2 else 0) := by
    rw [rdI, if_neg (by omega), Int.toNat_natCast] at hrd
    split at hrd
    · rename_i hc
      rw [if_pos hc, if_pos hc, if_pos hc]; cases hrd; exact ⟨rfl, rfl, rfl⟩
    · rename_i hc
      rw [if_neg hc, if_neg hc, if_neg hc]; cases hrd; exact ⟨rfl, rfl, rfl⟩
  have hx32 : x < 2147483648 := by
    rw [hxyz.2.1]
    split
    · decide
    · have h1 := numV_lt true (fun i => t.getD (p + i) 0) (fun i => ht.getD _) n
      have h2 : 2 ^ n ≤ 2 ^ 31 := Nat.pow_le_pow_right (by decide) hn
      exact Nat.lt_of_lt_of_le h1 h2
  rw [← hxyz.1, ← hxyz.2.1, ← hxyz.2.2]
  have HRD := Lib.hid (fun w => ((rread_all ht p (n : Nat) true w hp hl rfl hsb).mono fun e w' h => (⟨by rw [hrd] at h; exact h.1, h.2.symm⟩ : e = .returned (.tuple #[.int .u32 (x : Int), .int .i64 (y : Int), .int .i64 (z : Int)]) ∧ w' = w)))
  have h1 := (h.alloc (.cells (rstC sb p (.slice ao no co) most) 64)).alloc (.cells rst0 64)
  have hsz : (w.alloc (.cells (rstC sb p (.slice ao no co) most) 64)).heap.size = w.heap.size + 1 := by
    show (w.heap.push _).size = _
    exact Array.size_push _
  rw [hsz] at h1
  unfold rstC rst0 at h1
  clear hrd hxyz h hsz hsb
  have H1 := Lib.hid h1; clear h1
  unfold rstC
  go_enter Tryz.func32, Tryz.ntmps32
  go_upto_region 1 with (fail)
  have h1 := H1.out
  clear H1
  generalize hb0 : w.heap.size = b0 at *
  generalize hb1 : b0 + 1 = b1 at *
  generalize hW : (w.alloc (.cells #[.string sb, .int .i64 (p : Int), (.slice ao no co), .int .i64 most] 64)).alloc (.cells #[.string ⟨#[]⟩, .int .i64 0, .slice none 0 0, .int .i64 0] 64) = W at *
  have hne : ¬ b0 = b1 := by omega
  have hne' : ¬ b1 = b0 := by omega
  clear hb0 hb1 hW
  have c0 := h1.right.cell 0 rfl
  have c1 := h1.right.cell 1 rfl
  have g1 := h1.right.free 1
  have h3 := (h1.perm (star_left_comm _ _ _)).set 1 (.int .i64 (y : Int))
  have HQ := Lib.hid (h3.perm (star_left_comm _ _ _)); clear h1 h3
  go_wp2_with fail
  refine (HRD.out _).mono ?_
  rintro e w2 ⟨rfl, rfl⟩
  go_upto_region 3 with (fail)
  clear c0 c1 g1
  generalize w2.setCell ⟨b0, 1, none⟩ (.int .i64 (y : Int)) = W2 at *
  have h4 : St w0 W2 (blk b1 (.cells #[.string ⟨#[]⟩, .int .i64 0, .slice none 0 0, .int .i64 0] 64) * (blk b0 (.cells #[.string sb, .int .i64 (y : Int), (.slice ao no co), .int .i64 most] 64) * F)) := HQ.out
  clear HQ
  have c0 := h4.right.cell 0 rfl
  have c1 := h4.right.cell 1 rfl
  have c2 := h4.right.cell 2 rfl
  have c3 := h4.right.cell 3 rfl
  have r0 := h4.cell 0 rfl
  have r1 := h4.cell 1 rfl
  have r2 := h4.cell 2 rfl
  have r3 := h4.cell 3 rfl
  have s0 := h4.free 0
  have s1 := h4.free 1
  have s2 := h4.free 2
  have s3 := h4.free 3
  have HF := Lib.hid ((((h4.set 0 (.string sb)).set 1 (.int .i64 (y : Int))).set 2 (.slice ao no co)).set 3 (.int .i64 most))
  clear h4
  have hxw : wrap64 (x : Int) = x := by unfold wrap64; omega
  go_wp2_with fail
  refine bodyPost_ret3c rfl rfl HF.out.at_ Tryz.underlying64 rfl (by show _ = some 4; kernel_rfl) rfl ?_
  exact ⟨rfl, HF.out.right.right⟩

set_option maxHeartbeats 4000000 in
theorem rnext_any {w0 w : World} {F : SProp} (h : St w0 w F) {t : List Nat} (ht : Bit t) (hl : t.length ≤ 1000000000) {p : Nat} (hp : p ≤ t.length) {W : List (List Nat)} (hb : ∀ v ∈ W, Bit v) (hW : W.length ≤ 100000) {vw : Value} (hv : Stb w0 F (fun w => Reads w 1 vw W.length (W.map txv))) {ao : Option Addr} {no co : Nat} {most : Int} {sb : ByteArray} (hsb : sb = ⟨(tx t).toArray⟩) :
    Calls Tryz.prog 63 #[.agg (rstC sb p (.slice ao no co) most), vw] w fun e w' => ∃ (z : Int) (x p' : Nat),
      e = .returned (.tuple #[.agg (rstC sb p' (.slice ao no co) most), .int .i64 z, .int .i64 (x : Nat)]) ∧ RdR (rdW W [] (t.drop p)) p z x p' ∧ St w0 w' F := by
  have h1 := (h.alloc (.cells (rstC sb p (.slice ao no co) most) 64)).alloc (.cells rst0 64)
  have hsz : (w.alloc (.cells (rstC sb p (.slice ao no co) most) 64)).heap.size = w.heap.size + 1 := by
    show (w.heap.push _).size = _
    exact Array.size_push _
  rw [hsz] at h1
  unfold rstC rst0 at h1
  obtain ⟨aw, cw, rfl⟩ := (hv w h).sub
  obtain ⟨z, x, y, hzx, hy, hval⟩ : ∃ (z : Int) (x y : Nat), RdR (rdW W [] (t.drop p)) p z x y ∧ True ∧ rdV (rdW W [] (t.drop p)) p = .tuple #[.int .i64 z, .int .i64 (y : Int), .int .i64 (x : Int)] := by
    rw [rdV]
    generalize rdW W [] (t.drop p) = r
    obtain ⟨k, r⟩ := r
    cases r with
    | inl i => exact ⟨i, 0, p + k, ⟨rfl, rfl, rfl⟩, trivial, rfl⟩
    | inr er => exact ⟨0, er, p + k, ⟨rfl, rfl⟩, trivial, rfl⟩
  have HRD := Lib.hid (fun w (h : St w0 w F) => (by have := hread_any (hv w h) hb ht p hp hl hW; rw [hval, ← hsb] at this; exact this : Calls Tryz.prog 81 #[.slice aw W.length cw, .string sb, .int .i64 p] w fun e w' => e = .returned (.tuple #[.int .i64 z, .int .i64 (y : Int), .int .i64 (x : Int)]) ∧ w' = w))
  have HZX := Lib.hid hzx
  clear hsz hsb hzx hy hval h hv
  have H1 := Lib.hid h1; clear h1
  unfold rstC
  go_enter Tryz.func63, Tryz.ntmps63
  go_upto_region 1 with (fail)
  have h1 := H1.out
  clear H1
  generalize hb0 : w.heap.size = b0 at *
  generalize hb1 : b0 + 1 = b1 at *
  generalize hW : (w.alloc (.cells #[.string sb, .int .i64 (p : Int), (.slice ao no co), .int .i64 most] 64)).alloc (.cells #[.string ⟨#[]⟩, .int .i64 0, .slice none 0 0, .int .i64 0] 64) = Ww at *
  have hne : ¬ b0 = b1 := by omega
  have hne' : ¬ b1 = b0 := by omega
  clear hb0 hb1 hW
  have c0 := h1.right.cell 0 rfl
  have c1 := h1.right.cell 1 rfl
  have g1 := h1.right.free 1
  have HRF := Lib.hid (HRD.out _ h1.right.right); clear HRD
  have h3 := (h1.perm (star_left_comm _ _ _)).set 1 (.int .i64 (y : Int))
  have HQ := Lib.hid (h3.perm (star_left_comm _ _ _)); clear h1 h3
  go_wp2_with fail
  refine HRF.out.mono ?_
  rintro e w2 ⟨rfl, rfl⟩
  go_upto_region 3 with (fail)
  clear HRF
  clear c0 c1 g1
  generalize w2.setCell ⟨b0, 1, none⟩ (.int .i64 (y : Int)) = W2 at *
  have h4 : St w0 W2 (blk b1 (.cells #[.string ⟨#[]⟩, .int .i64 0, .slice none 0 0, .int .i64 0] 64) * (blk b0 (.cells #[.string sb, .int .i64 (y : Int), (.slice ao no co), .int .i64 most] 64) * F)) := HQ.out
  clear HQ
  have c0 := h4.right.cell 0 rfl
  have c1 := h4.right.cell 1 rfl
  have c2 := h4.right.cell 2 rfl
  have c3 := h4.right.cell 3 rfl
  have r0 := h4.cell 0 rfl
  have r1 := h4.cell 1 rfl
  have r2 := h4.cell 2 rfl
  have r3 := h4.cell 3 rfl
  have s0 := h4.free 0
  have s1 := h4.free 1
  have s2 := h4.free 2
  have s3 := h4.free 3
  have HF := Lib.hid ((((h4.set 0 (.string sb)).set 1 (.int .i64 (y : Int))).set 2 (.slice ao no co)).set 3 (.int .i64 most))
  clear h4
  go_wp2_with fail
  refine bodyPost_ret3c rfl rfl HF.out.at_ Tryz.underlying64 rfl (by show _ = some 4; kernel_rfl) rfl ?_
  exact ⟨z, x, y, rfl, HZX.out, HF.out.right.right⟩
end Go.Proofs.YtddifndfppilkaaGreat

namespace Go.Proofs.YtddifndfppilkaaGreat
open Go.RowKit Go.Mz
set_option linter.unusedVariables false
set_option linter.unusedSimpArgs false
set_option maxRecDepth 100000

theorem fromsL_ok (far : Bool) : ∀ b ∈ fromsL far, b.1 ≤ 100000 ∧ b.2 ≤ 13 := by cases far <;> decide
theorem set4 {w0 w : World} {b : Nat} {c : Array Value} {e : TypeId} {F : SProp} (h : St w0 w (blk b (.cells c e) * F)) (hc : c.size = 4) (v0 v1 v2 v3 : Value) :
    St w0 ((((w.setCell ⟨b, 0, none⟩ v0).setCell ⟨b, 1, none⟩ v1).setCell ⟨b, 2, none⟩ v2).setCell ⟨b, 3, none⟩ v3) (blk b (.cells #[v0, v1, v2, v3] e) * F) := by
  have h1 := (((h.set 0 v0).set 1 v1).set 2 v2).set 3 v3
  obtain ⟨l⟩ := c
  match l, hc with
  | [a, b', c', d], _ => exact h1

set_option maxHeartbeats 40000000 in
theorem rnumber_any {w0 w : World} {F : SProp} (h : St w0 w F) {t : List Nat} (ht : Bit t) (hl : t.length ≤ 1000000000) {p : Nat} (hp : p ≤ t.length) (i : Nat) (hi : i ≤ 100000) (far : Bool) {ao : Option Addr} {no co : Nat} {most : Int} {sb : ByteArray} (hsb : sb = ⟨(tx t).toArray⟩) :
    Calls Tryz.prog 64 #[.agg (rstC sb p (.slice ao no co) most), .int .i64 i, .bool far] w fun e w' => ∃ (z : Int) (x p' : Nat),
      e = .returned (.tuple #[.agg (rstC sb p' (.slice ao no co) most), .int .i64 z, .int .i64 (x : Nat)]) ∧ NumR (numberF t (fromsL far) i p) p z x p' ∧ p' ≤ t.length ∧ St w0 w' F := by
  have h1 := (h.alloc (.cells (rstC sb p (.slice ao no co) most) 64)).alloc (.cells rst0 64)
  have hsz : (w.alloc (.cells (rstC sb p (.slice ao no co) most) 64)).heap.size = w.heap.size + 1 := by
    show (w.heap.push _).size = _
    exact Array.size_push _
  rw [hsz] at h1
  have HNUM := Lib.hid (fun (w : World) (F : SProp) (h : St w0 w F) (n : Nat) (hn : n ≤ 31) => rnum_any h ht hl hp n hn (ao := ao) (no := no) (co := co) (most := most) hsb (j := (n : Int)) rfl)
  obtain ⟨T, hT⟩ : ∃ T, T = fromsL far := ⟨_, rfl⟩
  have hok : ∀ b ∈ T, b.1 ≤ 100000 ∧ b.2 ≤ 13 := by rw [hT]; exact fromsL_ok far
  have HFR := Lib.hid (fun (w : World) (F : SProp) (h : St w0 w F) => (by rw [hT]; exact rfroms_any h far : Calls Tryz.prog 82 #[.bool far] w fun e w' => ∃ va vb, e = .returned (.tuple #[va, vb]) ∧
    St w0 w' (own 3 1 va T.length (nvs (T.map Prod.fst)) * (own 3 1 vb T.length (nvs (T.map Prod.snd)) * F))))
  rw [← hT]
  unfold rstC rst0 at h1
  clear h hsz hsb hT
  have H1 := Lib.hid h1; clear h1
  unfold rstC at HNUM ⊢
  go_enter Tryz.func64, Tryz.ntmps64
  go_upto_region 1 with (fail)
  have h1 := H1.out
  clear H1
  generalize hb0 : w.heap.size = b0 at *
  generalize hb1 : b0 + 1 = b1 at *
  generalize hW : (w.alloc (.cells #[.string sb, .int .i64 (p : Int), .slice ao no co, .int .i64 most] 64)).alloc (.cells #[.string ⟨#[]⟩, .int .i64 0, .slice none 0 0, .int .i64 0] 64) = W at *
  have hne : ¬ b0 = b1 := by omega
  have hne' : ¬ b1 = b0 := by omega
  clear hb0 hb1 hW
  have H1 := Lib.hid h1; clear h1
  go_wp2_with fail
  refine (HFR.out _ _ H1.out).mono ?_
  rintro e w2 ⟨va, vb, rfl, h2⟩
  obtain ⟨aa, ca, rfl⟩ := h2.reads.sub
  obtain ⟨ab, cb, rfl⟩ := h2.right.reads.sub
  by_cases hiT : i < T.length
  · have hx := List.getElem?_eq_getElem hiT
    obtain ⟨b1', b2'⟩ := hok T[i] (List.getElem_mem _)
    have hy : (nvs (T.map Prod.fst))[i]? = some (nv T[i].1) := by rw [nvs, List.getElem?_map, List.getElem?_map, hx]; rfl
    have hz : (nvs (T.map Prod.snd))[i]? = some (nv T[i].2) := by rw [nvs, List.getElem?_map, List.getElem?_map, hx]; rfl
    have HR := Lib.hid (show numberF t T i p = if t.length < p + T[i].2 then .inl 2 else .inr (p + T[i].2, T[i].1 + vl t p T[i].2) by rw [numberF, hx])
    generalize T[i].1 = f at *
    generalize T[i].2 = ex at *
    simp only [nv] at hy hz
    obtain ⟨ga, rfl⟩ := own_at h2 (by omega)
    obtain ⟨gb, rfl⟩ := own_at h2.right (by omega)
    have hi2 : ¬ (T.length : Int) ≤ i := by omega
    have hi3 : (i : Int) < T.length := by omega
    have z0 := h2.right.own_cell hz
    have h3 := h2.right.right
    have c0 := h3.right.cell 0 rfl
    have c1 := h3.right.cell 1 rfl
    have c2 := h3.right.cell 2 rfl
    have c3 := h3.right.cell 3 rfl
    have h4 := h2.perm (show _ = blk b0 (.cells #[.string sb, .int .i64 (p : Int), .slice ao no co, .int .i64 most] 64) * (blk b1 (.cells #[.string ⟨#[]⟩, .int .i64 0, .slice none 0 0, .int .i64 0] 64) * (own 3 1 (.slice (some ⟨ga, 0, none⟩) T.length ca) T.length (nvs (T.map Prod.fst)) * (own 3 1 (.slice (some ⟨gb, 0, none⟩) T.length cb) T.length (nvs (T.map Prod.snd)) * F))) by ac_rfl)
    have HN := Lib.hid (HNUM.out _ _ h4.drew ex (by omega))
    clear h2 h3 H1 HNUM hok hx hz h4
    obtain ⟨q, hq⟩ : ∃ q, q = (if t.length < p + ex then p else p + ex) := ⟨_, rfl⟩
    obtain ⟨m, hm⟩ : ∃ m, m = (if t.length < p + ex then 0 else vl t p ex) := ⟨_, rfl⟩
    obtain ⟨x, hxx⟩ : ∃ x, x = (if t.length < p + ex then 2 else 0) := ⟨_, rfl⟩
    rw [← hq, ← hm, ← hxx] at HN
    have HQ := Lib.hid hq; have HM := Lib.hid hm; have HX := Lib.hid hxx; have HY := Lib.hid hy; clear hq hm hxx hy
    go_upto_region 4 with (fail)
    go_region_with (first | (go_at_call 32; refine HN.out.mono ?_; rintro e w3 ⟨rfl, h5⟩; have d0 := h5.cell 0 rfl; have d1 := h5.cell 1 rfl; have d2 := h5.cell 2 rfl; have d3 := h5.cell 3 rfl; have f0 := h5.free 0; have f1 := h5.free 1; have f2 := h5.free 2; have f3 := h5.free 3; have H5 := Lib.hid h5; clear h5))
    all_goals
      have h6 := set4 H5.out rfl (.string sb) (.int .i64 (q : Int)) (.slice ao no co) (.int .i64 most)
      have H6 := Lib.hid h6; clear h6 H5 HN d0 d1 d2 d3 f0 f1 f2 f3
      go_upto_region 5 with (fail)
      generalize (((w3.setCell ⟨b0, 0, none⟩ (.string sb)).setCell ⟨b0, 1, none⟩ (.int .i64 (q : Int))).setCell ⟨b0, 2, none⟩ (.slice ao no co)).setCell ⟨b0, 3, none⟩ (.int .i64 most) = W4 at *
      have h7 := H6.out
      have c0 := h7.cell 0 rfl
      have c1 := h7.cell 1 rfl
      have c2 := h7.cell 2 rfl
      have c3 := h7.cell 3 rfl
      have y0 := h7.right.right.own_cell HY.out
      have h8 := h7.perm (star_left_comm _ _ _)
      have r0 := h8.cell 0 rfl
      have r1 := h8.cell 1 rfl
      have r2 := h8.cell 2 rfl
      have r3 := h8.cell 3 rfl
      have s0 := h8.free 0
      have s1 := h8.free 1
      have s2 := h8.free 2
      have s3 := h8.free 3
      have HF := Lib.hid (set4 h8 rfl (.string sb) (.int .i64 (q : Int)) (.slice ao no co) (.int .i64 most)).drew
      have hg1 : ¬ ga = b1 := St.own_ne (h8.perm (show _ = blk b1 _ * (own 3 1 (.slice (some ⟨ga, 0, none⟩) T.length ca) T.length (nvs (T.map Prod.fst)) * (blk b0 _ * (own 3 1 (.slice (some ⟨gb, 0, none⟩) T.length cb) T.length (nvs (T.map Prod.snd)) * F))) by ac_rfl))
      have hg1' : ¬ b1 = ga := fun e => hg1 e.symm
      clear h7 h8 H6
      have hmm : m ≤ 8192 := by
        rw [HM.out]; split
        · omega
        · have h1 := numV_lt true (fun i => t.getD (p + i) 0) (fun i => ht.getD _) ex
          have h2 : 2 ^ ex ≤ 2 ^ 13 := Nat.pow_le_pow_right (by decide) b2'
          have h3 : vl t p ex < 2 ^ ex := h1
          omega
      have HWR := Lib.hid (show IntKind.i64.wrap ((f : Int) + m) = ((f + m : Nat) : Int) by rw [IntWalk.i64_in _ (by omega)]; omega)
      have HQT := Lib.hid (show q ≤ t.length by rw [HQ.out]; split <;> omega)
      have HNR := Lib.hid (show NumR (numberF t T i p) p ((f + m : Nat) : Int) x q by
        rw [HR.out]
        by_cases hc : t.length < p + ex
        · rw [if_pos hc]; exact ⟨by rw [HX.out, if_pos hc], by decide⟩
        · rw [if_neg hc]; exact ⟨by rw [HX.out, if_neg hc], by rw [HQ.out, if_neg hc], by rw [HM.out, if_neg hc]⟩)
      go_region
      all_goals
        clear c0 c1 c2 c3 y0 r0 r1 r2 r3 s0 s1 s2 s3
        go_wp2_with fail
        refine bodyPost_ret3c rfl rfl HF.out.at_ Tryz.underlying64 rfl (by show _ = some 4; kernel_rfl) rfl ?_
        exact ⟨((f + m : Nat) : Int), x, q, by rw [← HWR.out]; rfl, HNR.out, HQT.out, HF.out.right.right.right.right⟩
  · have HR := Lib.hid (show numberF t T i p = .inl 6 by rw [numberF, List.getElem?_eq_none (by omega)])
    have hi2 : (T.length : Int) ≤ i := by omega
    have h3 := h2.right.right
    have c0 := h3.right.cell 0 rfl
    have c1 := h3.right.cell 1 rfl
    have c2 := h3.right.cell 2 rfl
    have c3 := h3.right.cell 3 rfl
    have r0 := h3.cell 0 rfl
    have r1 := h3.cell 1 rfl
    have r2 := h3.cell 2 rfl
    have r3 := h3.cell 3 rfl
    have s0 := h3.free 0
    have s1 := h3.free 1
    have s2 := h3.free 2
    have s3 := h3.free 3
    have HF := Lib.hid (set4 h3 rfl (.string sb) (.int .i64 (p : Int)) (.slice ao no co) (.int .i64 most))
    clear h2 h3 H1 HNUM hok
    go_wp2_with fail
    refine bodyPost_ret3c rfl rfl HF.out.at_ Tryz.underlying64 rfl (by show _ = some 4; kernel_rfl) rfl ?_
    exact ⟨0, 6, p, rfl, by rw [HR.out]; exact ⟨rfl, by decide⟩, hp, HF.out.right.right⟩
end Go.Proofs.YtddifndfppilkaaGreat
