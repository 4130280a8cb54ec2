/-
  Layer 28 (console): a line that gives an order.
-/
import Derived.Test.YtknelobnbpboiaaGreatDoorConJ
import Derived.Test.YtknelobnbpboiaaGreatDoorReg3
import Derived.Test.YtknelobnbpboiaaGreatDoorPhG
import Derived.Test.YtknelobnbpboiaaGreatDoorTagS
import Derived.Deep.RegionHeld3
import Derived.Test.YtknelobnbpboiaaGreatDoorConC
import Derived.Test.YtknelobnbpboiaaGreatDoorConE
import Derived.Test.YtknelobnbpboiaaGreatDoorConI
import Derived.Test.YtknelobnbpboiaaGreatDoorConN
import Derived.Test.YtknelobnbpboiaaGreatDoorFld
namespace Go.Proofs.YtknelobnbpboiaaGreatDoor
open Go.RowKit Go.Mz
set_option linter.unusedVariables false
set_option linter.unusedSimpArgs false
set_option maxRecDepth 100000

theorem elemInt : ElemT Tryz.prog 61 3 1 8 (.int .i64 0) :=
  ⟨Tryz.underlying61, info_parts (by kernel_rfl), rfl, by decide⟩
theorem exec_move {P : Program} {w : World} {o : Oper} {a : Act} (x : Operand) (ho : o.op = .move x) {v : Value} (hx : a.eval x = v) : (execOp a.eval o).run P w = .ok (.value v) w := by
  unfold execOp
  simp only [ho, hx]
  rfl
theorem nn {α : Type} {x : α} {p : Prop} (h : some x = none) : p := by cases h
def pMo : Option Value → SProp
  | none => emp
  | some v => sEx fun x : Nat × (ByteArray → Option Value) => lift (v = .map (some x.1) ∧ OrdM x.2) * mapK x.1 x.2
def pAl (n : Int) (fm : Nat) (s : Bool) : Option Value → SProp
  | none => emp
  | some v => sEx fun x : Nat => lift (v = .pointer (some ⟨x, 0, none⟩)) * blk x (.cells (if s then #[.int .i64 n, .func (.func fm) #[] #[]] else #[.int .i64 0, .nilFunc]) 57)
structure Inv6 (w0 : World) (B : SProp) (n : Int) (fm : Nat) (σ : Nat → Option Value) (w : World) : Prop where
  st : St w0 w (pMo (σ 0) * (pAl n fm (σ 9).isSome (σ 8) * B))
  h98 : σ 8 = none → σ 9 = none
  v4 : ∀ v, σ 4 = some v → v = .tuple #[ordV n fm, .bool true]
  v5 : ∀ v, σ 5 = some v → v = .tuple #[ordV n fm, .bool true]
  v6 : ∀ v, σ 6 = some v → v = ordV n fm
  v7 : ∀ v, σ 7 = some v → v = .bool true

set_option maxHeartbeats 40000000 in
theorem line_ord0 {w0 w : World} {b : Nat} {mx : Int} {l f : Value} {lw : Bool} {out out' : List UInt8} {X F : SProp} {R : Value → SProp → Prop} {fm : Nat} {s wd : ByteArray} {m : ByteArray} {k : Int}
    (h : St w0 w (sesB b l lw f out * (X * F))) (hM : ∀ w', St w0 w' F → w'.cell? ⟨2, 0, none⟩ = some (.int .i64 mx))
    (h0 : 0 < s.size) (hs0 : s[0]'h0 ≠ 35) (hs : s.size ≤ 200) (ht : (⟨(Lib.trimB s.data.toList 32).toArray⟩ : ByteArray).toList.isEmpty = false)
    (hc : Lib.countB s ⟨#[32]⟩ = 0) (hsp : Lib.splitB ⟨#[32]⟩ 0 0 s = [wd])
    (hFl : ∀ M, FlagM b M → M wd = none) (hOr : ∀ M, OrdM M → M wd = some (ordV 0 fm))
    (hent : ∀ args w, (callFunc fm args).run Tryz.prog w = .ok (.enter fm args) w)
    (hcall : ∀ (w : World) (v : Value) (F' : SProp), St w0 w (sesB b l lw f out * (X * (own 3 1 v 0 [] * F'))) → Calls Tryz.prog fm #[.pointer (some ⟨b, 0, none⟩), v] w fun e w' => e = .returned (.tuple #[.string m, .int .i64 k]) ∧ ∃ l' S, R l' S ∧ St w0 w' (sesB b l' lw f out * (S * F')))
    (htell : ∀ (w : World) (l' : Value) (F' : SProp), St w0 w (sesB b l' lw f out * F') → Calls Tryz.prog 13 #[.pointer (some ⟨b, 0, none⟩), .int .i64 k, .string m] w fun e w' => (∃ v, e = .returned v) ∧ St w0 w' (sesB b l' lw f out' * F')) :
    Calls Tryz.prog 7 #[.pointer (some ⟨b, 0, none⟩), .string s] w fun e w' => e = .returned (.tuple #[]) ∧ ∃ l' S, R l' S ∧ St w0 w' (sesB b l' lw f out' * (S * F)) := by
  have hT := Tryz.strings_Trim_one s 32 (by decide) w (by omega)
  have HT := Lib.hid hT; clear hT
  have H := Lib.hid h; clear h
  have HC := Lib.hid hcall; have HTL := Lib.hid htell; have HFl := Lib.hid hFl; have HOr := Lib.hid hOr; have HE := Lib.hid hent; have HMx := Lib.hid hM; have HS := Lib.hid hsp
  clear hcall htell hFl hOr hent hM hsp
  have hi : (0 : Int) < (s.size : Int) := by omega
  have hz : ((((s[0]'h0).toNat : Nat) : Int) == 35) = false := by
    refine beq_eq_false_iff_ne.2 fun e => hs0 (UInt8.toNat_inj.1 ?_)
    have : (s[0]'h0).toNat = 35 := by omega
    rw [this]; rfl
  go_enter Tryz.func7, Tryz.ntmps7
  go_wp2_with (go_at_call 10; apply stop)
  refine on (HT.out.mono ?_)
  rintro e w1 ⟨rfl, hw⟩
  have h1 : St w0 w1 (sesB b l lw f out * (X * F)) := by
    rcases hw with rfl | rfl
    · exact H.out
    · exact H.out.drew
  clear hw H HT
  obtain ⟨t, htt⟩ : ∃ t : ByteArray, ⟨(Lib.trimB s.data.toList 32).toArray⟩ = t := ⟨_, rfl⟩
  rw [htt] at ht
  rw [htt]
  clear htt
  have hp := Tryz.strings_Split s ⟨#[32]⟩ mx w1 (by omega) (HMx.out _ h1.right.right) (by decide)
  rw [hc, HS.out] at hp
  obtain ⟨q, hq⟩ : ∃ q, w1.heap.size = q := ⟨_, rfl⟩
  rw [hq] at hp
  have h2 := h1.alloc (.cells #[.string wd] 9)
  rw [hq] at h2
  have HP := Lib.hid hp
  have H2 := Lib.hid h2
  clear hp h1 h2 hq
  go_upto_region 2 with (go_at_call 11; refine HP.out.mono ?_; rintro e W1 ⟨rfl, rfl⟩)
  have h2 := H2.out
  clear H2 HP
  generalize w1.alloc (.cells #[.string wd] 9) = W1 at *
  obtain ⟨B, hB⟩ : ∃ B, B = blk q (.cells #[.string wd] 9) * (sesB b l lw f out * (X * F)) := ⟨_, rfl⟩
  have h3 : St w0 W1.drew B := by rw [hB]; exact h2.drew
  have hQ : ∀ (w' : World) (G : SProp), St w0 w' (G * B) → w'.cell? ⟨q, 0, none⟩ = some (.string wd) ∧ True := fun w' G h' => by
    rw [hB] at h'
    have h2 := h'.right
    exact ⟨h2.cell 0 rfl, trivial⟩
  have HB := Lib.hid hB; have HQ := Lib.hid hQ
  clear h2 hB hQ
  refine wp_region_noPanic ?_
  refine region_till (S := fun w' : World => ∃ G, St w0 w' (G * B)) (k := 7) (by kernel_rfl) ?_
  have hS : (fun w' : World => ∃ G, St w0 w' (G * B)) W1.drew := ⟨emp, h3.perm (emp_star _).symm⟩
  refine till_take0 (i := 0) (oi := ?_) (v := ?_) ?_ (by kernel_rfl) (by kernel_rfl) (by kernel_rfl) (by decide) (fun _ _ _ h => h.elim) (by assumption) (.inl ⟨?_, fun w => ?_⟩) ?_
  rotate_left 2
  · (simp only [List.getElem?_toArray, List.getElem?_cons_succ, List.getElem?_cons_zero]; rfl)
  · rfl
  · (go_simp; try with_reducible rfl)
  simp only [Act.put, List.setIfInBounds_toArray, List.set_cons_zero, List.set_cons_succ]
  refine till_take0 (i := 1) (oi := ?_) (v := ?_) ?_ (by kernel_rfl) (by kernel_rfl) (by kernel_rfl) (by decide) (fun _ _ _ h => h.elim) (by assumption) (.inl ⟨?_, fun w => ?_⟩) ?_
  rotate_left 2
  · (simp only [List.getElem?_toArray, List.getElem?_cons_succ, List.getElem?_cons_zero]; rfl)
  · rfl
  · (go_simp; try with_reducible rfl)
  simp only [Act.put, List.setIfInBounds_toArray, List.set_cons_zero, List.set_cons_succ]
  refine till_take0 (i := 2) (oi := ?_) (v := ?_) ?_ (by kernel_rfl) (by kernel_rfl) (by kernel_rfl) (by decide) (fun _ _ _ h => h.elim) (by assumption) (.inl ⟨?_, fun w => ?_⟩) ?_
  rotate_left 2
  · (simp only [List.getElem?_toArray, List.getElem?_cons_succ, List.getElem?_cons_zero]; rfl)
  · rfl
  · (go_simp; try with_reducible rfl)
  simp only [Act.put, List.setIfInBounds_toArray, List.set_cons_zero, List.set_cons_succ]
  refine till_take0 (i := 4) (oi := ?_) (v := ?_) ?_ (by kernel_rfl) (by kernel_rfl) (by kernel_rfl) (by decide) (fun _ _ _ h => h.elim) (by assumption) (.inl ⟨?_, fun w => ?_⟩) ?_
  rotate_left 2
  · (simp only [List.getElem?_toArray, List.getElem?_cons_succ, List.getElem?_cons_zero]; rfl)
  · rfl
  · (go_simp; try with_reducible rfl)
  simp only [Act.put, List.setIfInBounds_toArray, List.set_cons_zero, List.set_cons_succ]
  refine till_take0 (i := 5) (oi := ?_) (v := ?_) ?_ (by kernel_rfl) (by kernel_rfl) (by kernel_rfl) (by decide) (fun _ _ _ h => h.elim) (by assumption) (.inl ⟨?_, fun w => ?_⟩) ?_
  rotate_left 2
  · (simp only [List.getElem?_toArray, List.getElem?_cons_succ, List.getElem?_cons_zero]; rfl)
  · rfl
  · (go_simp; try with_reducible rfl)
  simp only [Act.put, List.setIfInBounds_toArray, List.set_cons_zero, List.set_cons_succ]
  refine till_take (i := 6) (oi := ?_) (v := ?_) ?_ (by kernel_rfl) (by kernel_rfl) (by kernel_rfl) (by kernel_rfl) (by kernel_rfl) (fun _ _ _ h => h.elim) (by assumption) (.inl ⟨?_, fun w9 hSw => ?_⟩) ?_
  rotate_left 2
  · (simp only [List.getElem?_toArray, List.getElem?_cons_succ, List.getElem?_cons_zero]; rfl)
  · rfl
  · (obtain ⟨G9, hG9⟩ := hSw; obtain ⟨f0, _⟩ := HQ.out _ _ hG9; clear hG9; go_simp; try with_reducible rfl)
  simp only [Act.put, List.setIfInBounds_toArray, List.set_cons_zero, List.set_cons_succ]
  refine till_one (i := 3) (by kernel_rfl) ?_
  refine wpOp_callv (args := #[.pointer (some ⟨b, 1, none⟩)]) rfl rfl (.func 12) #[.tmp 29] _ rfl rfl (by kernel_rfl) (fun args w => enters_of Tryz.func12 (by kernel_rfl) rfl args w) ((flags_any h3 b).mono ?_)
  rintro e W2 ⟨mf, hmf⟩
  obtain ⟨M, rfl, hFM, h4⟩ : ∃ M, e = .returned (.map (some mf)) ∧ FlagM b M ∧ St w0 W2 (mapK mf M * B) := by
    obtain ⟨M, e1, e2, e3⟩ := hmf
    exact ⟨M, e1, e2, e3⟩
  refine ⟨_, rfl, fun _ => ⟨_, h4⟩, ?_⟩
  simp only [Act.put, List.setIfInBounds_toArray, List.set_cons_zero, List.set_cons_succ, List.getElem_toArray, List.getElem_cons_succ, List.getElem_cons_zero]
  have hS2 : (fun w' : World => ∃ G, St w0 w' (G * B)) W2 := ⟨_, h4⟩
  have hlk := HFl.out M hFM
  refine till_one (i := 7) (by kernel_rfl) ?_
  refine wpOp_runTo rfl rfl (v := .tuple #[.pointer none, .bool false]) (w' := W2) ((exec_lookupK (z := .pointer none) (.tmp 30) (.tmp 33) rfl Tryz.underlying51 Tryz.underlying9 h4 rfl rfl (by kernel_rfl)).trans (by rw [hlk]; rfl)) ⟨fun _ => hS2, ?_⟩
  simp only [Act.put, List.setIfInBounds_toArray, List.set_cons_zero, List.set_cons_succ, List.getElem_toArray, List.getElem_cons_succ, List.getElem_cons_zero]
  refine till_take0 (i := 8) (oi := ?_) (v := ?_) ?_ (by kernel_rfl) (by kernel_rfl) (by kernel_rfl) (by decide) (fun _ _ _ h => h.elim) (by assumption) (.inl ⟨?_, fun w => ?_⟩) ?_
  rotate_left 2
  · (simp only [List.getElem?_toArray, List.getElem?_cons_succ, List.getElem?_cons_zero]; rfl)
  · rfl
  · (go_simp; try with_reducible rfl)
  simp only [Act.put, List.setIfInBounds_toArray, List.set_cons_zero, List.set_cons_succ]
  refine till_take0 (i := 9) (oi := ?_) (v := ?_) ?_ (by kernel_rfl) (by kernel_rfl) (by kernel_rfl) (by decide) (fun _ _ _ h => h.elim) (by assumption) (.inl ⟨?_, fun w => ?_⟩) ?_
  rotate_left 2
  · (simp only [List.getElem?_toArray, List.getElem?_cons_succ, List.getElem?_cons_zero]; rfl)
  · rfl
  · (go_simp; try with_reducible rfl)
  simp only [Act.put, List.setIfInBounds_toArray, List.set_cons_zero, List.set_cons_succ]
  refine till_take0 (i := 10) (oi := ?_) (v := ?_) ?_ (by kernel_rfl) (by kernel_rfl) (by kernel_rfl) (by decide) (fun _ _ _ h => h.elim) (by assumption) (.inl ⟨?_, fun w => ?_⟩) ?_
  rotate_left 2
  · (simp only [List.getElem?_toArray, List.getElem?_cons_succ, List.getElem?_cons_zero]; rfl)
  · rfl
  · (go_simp; try with_reducible rfl)
  simp only [Act.put, List.setIfInBounds_toArray, List.set_cons_zero, List.set_cons_succ]
  refine till_take0 (i := 11) (oi := ?_) (v := ?_) ?_ (by kernel_rfl) (by kernel_rfl) (by kernel_rfl) (by decide) (fun _ _ _ h => h.elim) (by assumption) (.inl ⟨?_, fun w => ?_⟩) ?_
  rotate_left 2
  · (simp only [List.getElem?_toArray, List.getElem?_cons_succ, List.getElem?_cons_zero]; rfl)
  · rfl
  · (go_simp; try with_reducible rfl)
  simp only [Act.put, List.setIfInBounds_toArray, List.set_cons_zero, List.set_cons_succ]
  refine till_take0 (i := 12) (oi := ?_) (v := ?_) ?_ (by kernel_rfl) (by kernel_rfl) (by kernel_rfl) (by decide) (fun _ _ _ h => h.elim) (by assumption) (.inl ⟨?_, fun w => ?_⟩) ?_
  rotate_left 2
  · (simp only [List.getElem?_toArray, List.getElem?_cons_succ, List.getElem?_cons_zero]; rfl)
  · rfl
  · (go_simp; try with_reducible rfl)
  simp only [Act.put, List.setIfInBounds_toArray, List.set_cons_zero, List.set_cons_succ]
  refine ⟨by kernel_rfl, NoPanic.normal ?_⟩
  clear hS hS2 h3
  obtain ⟨f0, _⟩ := HQ.out _ _ h4
  go_upto_region 6 with (fail)
  clear f0
  have h5 := h4.right.drew
  clear h4
  refine wp_region_noPanic ?_
  refine region_till (S := fun w' : World => ∃ G, St w0 w' (G * B)) (k := 4) (by kernel_rfl) ?_
  have hS : (fun w' : World => ∃ G, St w0 w' (G * B)) W2.drew := ⟨emp, h5.perm (emp_star _).symm⟩
  refine till_take0 (i := 1) (oi := ?_) (v := ?_) ?_ (by kernel_rfl) (by kernel_rfl) (by kernel_rfl) (by decide) (fun _ _ _ h => h.elim) (by assumption) (.inl ⟨?_, fun w => ?_⟩) ?_
  rotate_left 2
  · (simp only [List.getElem?_toArray, List.getElem?_cons_succ, List.getElem?_cons_zero]; rfl)
  · rfl
  · (go_simp; try with_reducible rfl)
  simp only [Act.put, List.setIfInBounds_toArray, List.set_cons_zero, List.set_cons_succ]
  refine till_take0 (i := 2) (oi := ?_) (v := ?_) ?_ (by kernel_rfl) (by kernel_rfl) (by kernel_rfl) (by decide) (fun _ _ _ h => h.elim) (by assumption) (.inl ⟨?_, fun w => ?_⟩) ?_
  rotate_left 2
  · (simp only [List.getElem?_toArray, List.getElem?_cons_succ, List.getElem?_cons_zero]; rfl)
  · rfl
  · (go_simp; try with_reducible rfl)
  simp only [Act.put, List.setIfInBounds_toArray, List.set_cons_zero, List.set_cons_succ]
  refine till_take (i := 3) (oi := ?_) (v := ?_) ?_ (by kernel_rfl) (by kernel_rfl) (by kernel_rfl) (by kernel_rfl) (by kernel_rfl) (fun _ _ _ h => h.elim) (by assumption) (.inl ⟨?_, fun w9 hSw => ?_⟩) ?_
  rotate_left 2
  · (simp only [List.getElem?_toArray, List.getElem?_cons_succ, List.getElem?_cons_zero]; rfl)
  · rfl
  · (obtain ⟨G9, hG9⟩ := hSw; obtain ⟨f0, _⟩ := HQ.out _ _ hG9; clear hG9; go_simp; try with_reducible rfl)
  simp only [Act.put, List.setIfInBounds_toArray, List.set_cons_zero, List.set_cons_succ]
  have hlo := Lib.hid (fun M (hM : OrdM M) => HOr.out M hM)
  refine till_phaseG (S := fun w' : World => ∃ G, St w0 w' (G * B)) (Inv6 w0 B 0 fm) [0, 4, 5, 6, 7, 8, 9] 125 (fun σ w' h => Exists.intro (pMo (σ 0) * pAl 0 fm (σ 9).isSome (σ 8)) (h.st.perm (star_assoc _ _ _).symm)) (by kernel_rfl) (by rfl) ?_ 1 (by rfl) ?_ ?_
  · intro i hi σ a W9 K hσ hw hsz9 hev hval hI hK
    obtain ⟨hst, h98, k4, k5, k6, k7⟩ := hI
    have e72 : a.eval (.tmp 72) = .string wd := hev 72 (by decide)
    clear hev
    simp only [List.mem_cons, List.not_mem_nil, or_false] at hi
    rcases hi with rfl | rfl | rfl | rfl | rfl | rfl | rfl
    · rw [hσ] at hst
      have hst : St w0 W9 (emp * (pAl 0 fm (σ 9).isSome (σ 8) * B)) := hst
      rw [emp_star] at hst
      refine wpOp_callv (args := #[]) rfl rfl (.func 14) #[] _ rfl rfl (by kernel_rfl) (fun args w => enters_of Tryz.func14 (by kernel_rfl) rfl args w) ((orders_any hst).mono ?_)
      rintro e W3 ⟨mo, hmo⟩
      obtain ⟨M2, rfl, hOM, h6⟩ : ∃ M, e = .returned (.map (some mo)) ∧ OrdM M ∧ St w0 W3 (mapK mo M * (pAl 0 fm (σ 9).isSome (σ 8) * B)) := by
        obtain ⟨M, e1, e2, e3⟩ := hmo
        exact ⟨M, e1, e2, e3⟩
      refine ⟨_, rfl, hK _ _ ⟨?_, h98, k4, k5, k6, k7⟩⟩
      exact St.mk_ex_l (mo, M2) ((St.mk_pure_l ⟨rfl, hOM⟩ h6).perm (star_assoc _ _ _).symm)
    · obtain ⟨v0, hv0⟩ := Option.isSome_iff_exists.1 (hw 0 (by decide) (by kernel_rfl))
      have e69 : a.eval (.tmp 69) = v0 := hval 0 v0 hv0 (by kernel_rfl)
      have hst2 := hst
      rw [hv0] at hst2
      obtain ⟨⟨mo, M2⟩, hs2⟩ := St.ex_l hst2
      obtain ⟨⟨hv, hOM⟩, h6⟩ := (hs2.perm (star_assoc _ _ _)).pure_l
      have h6 : St w0 W9 (mapK mo M2 * (pAl 0 fm (σ 9).isSome (σ 8) * B)) := h6
      have hlk := hlo.out M2 hOM
      refine wpOp_runTo rfl rfl (v := .tuple #[ordV 0 fm, .bool true]) (w' := W9) ((exec_lookupK (z := .agg #[.int .i64 0, .nilFunc]) (.tmp 69) (.tmp 72) rfl Tryz.underlying59 Tryz.underlying9 h6 (e69.trans hv) e72 (by kernel_rfl)).trans (by rw [hlk]; rfl)) (hK _ _ ⟨hst, h98, ?_, k5, k6, k7⟩)
      intro v hv9
      exact (Option.some.inj hv9).symm
    · obtain ⟨v4, hv4⟩ := Option.isSome_iff_exists.1 (hw 4 (by decide) (by kernel_rfl))
      have e73 : a.eval (.tmp 73) = .tuple #[ordV 0 fm, .bool true] := (hval 4 v4 hv4 (by kernel_rfl)).trans (k4 _ hv4)
      refine wpOp_runTo rfl rfl (v := .tuple #[ordV 0 fm, .bool true]) (w' := W9) (exec_move (.tmp 73) rfl e73) (hK _ _ ⟨hst, h98, k4, ?_, k6, k7⟩)
      intro v hv9
      exact (Option.some.inj hv9).symm
    · obtain ⟨v5, hv5⟩ := Option.isSome_iff_exists.1 (hw 5 (by decide) (by kernel_rfl))
      have e68 : a.eval (.tmp 68) = .tuple #[ordV 0 fm, .bool true] := (hval 5 v5 hv5 (by kernel_rfl)).trans (k5 _ hv5)
      refine wpOp_runTo rfl rfl (v := ordV 0 fm) (w' := W9) (exec_extract (.tmp 68) 0 rfl e68 rfl) (hK _ _ ⟨hst, h98, k4, k5, ?_, k7⟩)
      intro v hv9
      exact (Option.some.inj hv9).symm
    · obtain ⟨v5, hv5⟩ := Option.isSome_iff_exists.1 (hw 5 (by decide) (by kernel_rfl))
      have e68 : a.eval (.tmp 68) = .tuple #[ordV 0 fm, .bool true] := (hval 5 v5 hv5 (by kernel_rfl)).trans (k5 _ hv5)
      refine wpOp_runTo rfl rfl (v := .bool true) (w' := W9) (exec_extract (.tmp 68) 1 rfl e68 rfl) (hK _ _ ⟨hst, h98, k4, k5, k6, ?_⟩)
      intro v hv9
      exact (Option.some.inj hv9).symm
    · have h9 := h98 hσ
      rw [hσ] at hst
      have hst : St w0 W9 (pMo (σ 0) * (emp * B)) := hst
      rw [emp_star] at hst
      have ha := (hst.alloc (.cells #[.int .i64 0, .nilFunc] 57)).perm (star_left_comm _ _ _)
      refine wpOp_runTo rfl rfl (v := .pointer (some ⟨W9.heap.size, 0, none⟩)) (w' := W9.alloc (.cells #[.int .i64 0, .nilFunc] 57)) (by kernel_rfl) (hK _ _ ⟨?_, fun h => nn h, k4, k5, k6, k7⟩)
      show St w0 _ (pMo (σ 0) * (pAl 0 fm (σ 9).isSome (some _) * B))
      rw [h9]
      refine St.perm ?_ (star_left_comm _ _ _)
      exact St.mk_ex_l W9.heap.size ((St.mk_pure_l rfl (ha.perm (star_left_comm _ _ _))).perm (star_assoc _ _ _).symm)
    · obtain ⟨v6, hv6⟩ := Option.isSome_iff_exists.1 (hw 6 (by decide) (by kernel_rfl))
      obtain ⟨v8, hv8⟩ := Option.isSome_iff_exists.1 (hw 8 (by decide) (by kernel_rfl))
      have e74 : a.eval (.tmp 74) = ordV 0 fm := (hval 6 v6 hv6 (by kernel_rfl)).trans (k6 _ hv6)
      have e7 : a.eval (.tmp 7) = v8 := hval 8 v8 hv8 (by kernel_rfl)
      rw [hσ, hv8] at hst
      obtain ⟨x, hx⟩ := St.ex_l (hst.perm (star_left_comm _ _ _))
      obtain ⟨hv, h6⟩ := (hx.perm (star_assoc _ _ _)).pure_l
      have h6 : St w0 W9 (blk x (.cells #[.int .i64 0, .nilFunc] 57) * (pMo (σ 0) * B)) := h6
      refine wpOp_store (cells := #[.int .i64 0, .func (.func fm) #[] #[]]) rfl rfl 57 (.tmp 7) (.tmp 74) rfl h6 (e7.trans hv) e74 (by show _ = some 2; kernel_rfl) rfl rfl ?_
      have hk := hK undef (W9.setRow x #[.int .i64 0, .func (.func fm) #[] #[]]) ⟨?_, fun h => nn (hv8.symm.trans h), k4, k5, k6, k7⟩
      · rw [put_big hsz9 (by kernel_rfl)] at hk
        exact hk
      · show St w0 _ (pMo (σ 0) * (pAl 0 fm true (σ 8) * B))
        rw [hv8]
        refine St.perm ?_ (star_left_comm _ _ _)
        exact St.mk_ex_l x ((St.mk_pure_l hv (h6.setRow _)).perm (star_assoc _ _ _).symm)
  · exact ⟨by show St w0 W2.drew (emp * (emp * B)); rw [emp_star, emp_star]; exact h5, fun _ => rfl, fun v hv => (by cases hv), fun v hv => (by cases hv), fun v hv => (by cases hv), fun v hv => (by cases hv)⟩
  intro vs W3 hI
  obtain ⟨hst, -, k4, k5, k6, k7⟩ := hI
  have hst : St w0 W3 (pMo (some (vs 0)) * (pAl 0 fm true (some (vs 8)) * B)) := hst
  have e4 : vs 4 = .tuple #[ordV 0 fm, .bool true] := k4 _ rfl
  have e5 : vs 5 = .tuple #[ordV 0 fm, .bool true] := k5 _ rfl
  have e6 : vs 6 = ordV 0 fm := k6 _ rfl
  have e7 : vs 7 = .bool true := k7 _ rfl
  obtain ⟨x, hx⟩ := St.ex_l (hst.perm (star_left_comm _ _ _))
  obtain ⟨e8, h6⟩ := (hx.perm (star_assoc _ _ _)).pure_l
  have h6 : St w0 W3 (blk x (.cells #[.int .i64 0, .func (.func fm) #[] #[]] 57) * (pMo (some (vs 0)) * B)) := h6
  have h8 := h6.perm (show _ = pMo (some (vs 0)) * (blk x (.cells #[.int .i64 0, .func (.func fm) #[] #[]] 57) * B) by ac_rfl)
  have h8 := h8.right
  clear hx hst k4 k5 k6 k7 h6 hlo hS h5
  change anyTill _ _ _ _ _ _ _ _ (putsR _ [(69, vs 0), (73, vs 4), (68, vs 5), (74, vs 6), (75, vs 7), (7, vs 8), (100009, vs 9)]) _
  rw [e4, e5, e6, e7, e8]
  obtain ⟨z0, hz0⟩ : ∃ z, vs 0 = z := ⟨_, rfl⟩
  rw [hz0]
  clear e4 e5 e6 e7 e8 hz0
  simp only [putsR, Act.put, List.setIfInBounds_toArray, List.set_cons_zero, List.set_cons_succ]
  refine till_one (i := 10) (by kernel_rfl) ?_
  refine wpOp_runTo rfl rfl (v := .bool true) (w' := W3) (by kernel_rfl) ⟨fun _ => ⟨_, h8⟩, ?_⟩
  simp only [Act.put, List.setIfInBounds_toArray, List.set_cons_zero, List.set_cons_succ, List.getElem_toArray, List.getElem_cons_succ, List.getElem_cons_zero]
  refine ⟨by kernel_rfl, NoPanic.normal ?_⟩
  obtain ⟨C, hC⟩ : ∃ C, C = blk x (.cells #[.int .i64 0, .func (.func fm) #[] #[]] 57) * B := ⟨_, rfl⟩
  rw [← hC] at h8
  have hV : ∀ (w' : World) (G : SProp), St w0 w' (G * C) → (w'.cell? ⟨q, 0, none⟩ = some (.string wd) ∧ True) ∧ w'.cell? ⟨x, 0, none⟩ = some (.int .i64 0) ∧ w'.cell? ⟨x, 1, none⟩ = some (.func (.func fm) #[] #[]) := fun w' G h' => by
    rw [hC] at h'
    exact ⟨HQ.out w' (G * blk x (.cells #[.int .i64 0, .func (.func fm) #[] #[]] 57)) (h'.perm (star_assoc _ _ _).symm), h'.right.cell 0 rfl, h'.right.cell 1 rfl⟩
  have hU : ∀ (w' : World) (v : Value), St w0 w' (own 3 1 v 0 [] * C) → St w0 w' (sesB b l lw f out * (X * (own 3 1 v 0 [] * (blk x (.cells #[.int .i64 0, .func (.func fm) #[] #[]] 57) * (blk q (.cells #[.string wd] 9) * F))))) := fun w' v h' => by
    rw [hC, HB.out] at h'
    exact h'.perm (by ac_rfl)
  have HV := Lib.hid hV; have HU := Lib.hid hU
  have H8 := Lib.hid (St.own_nil 3 1 h8)
  clear hV hU hC h8
  have T := elemInt
  obtain ⟨⟨f0, _⟩, x0, x1⟩ := HV.out _ _ H8.out
  go_wp2
  go_loopw [79, 8, 9] (fun vi vo vl wr => ∃ k : Nat, k ≤ 0 ∧ vi = .int .i64 k ∧ vo = .bool true ∧ St w0 wr (own 3 1 vl k (([] : List Value).take k) * C)) (fun vi _ _ _ => 0 - (intOf vi).toNat)
  case atStart => exact ⟨0, by omega, rfl, rfl, H8.out⟩
  clear H8 f0 x0 x1
  case round =>
    obtain ⟨k, hk, rfl, rfl, h2⟩ := hrel
    obtain ⟨⟨f0, _⟩, x0, x1⟩ := HV.out _ _ h2
    obtain ⟨al, cl, rfl⟩ := h2.reads.sub
    have H2 := Lib.hid h2; clear h2
    obtain rfl : k = 0 := by omega
    have H9 := Lib.hid (HC.out _ _ _ (HU.out _ _ H2.out))
    clear H2
    have hE := HE.out
    go_wp2_with fail
    refine H9.out.mono ?_
    rintro e w2 ⟨rfl, l2, S2, hR2, h5⟩
    have HT5 := Lib.hid (HTL.out w2 l2 _ h5)
    clear H9 h5 HC HTL HFl HOr HMx HQ HV HU HB f0 x0 x1 hE
    go_wp2_with (go_at_call 13; refine HT5.out.mono ?_; rintro e w3 ⟨⟨v9, rfl⟩, h6⟩; have H6 := Lib.hid h6; clear h6 HT5)
    go_end0
    exact ⟨rfl, l2, S2, hR2, (H6.out.perm (show _ = (blk x (.cells #[.int .i64 0, .func (.func fm) #[] #[]] 57) * blk q (.cells #[.string wd] 9)) * (sesB b l2 lw f out' * (S2 * F)) by ac_rfl)).right⟩
#print axioms line_ord0

set_option maxHeartbeats 40000000 in
theorem line_ord1 {w0 w : World} {b : Nat} {mx : Int} {l f : Value} {lw : Bool} {out out' : List UInt8} {X F : SProp} {R : Value → SProp → Prop} {fm : Nat} {s wd : ByteArray} {a1 : ByteArray} {v1 : Int} {m : ByteArray} {k : Int}
    (h : St w0 w (sesB b l lw f out * (X * F))) (hM : ∀ w', St w0 w' F → w'.cell? ⟨2, 0, none⟩ = some (.int .i64 mx))
    (h0 : 0 < s.size) (hs0 : s[0]'h0 ≠ 35) (hs : s.size ≤ 200) (ht : (⟨(Lib.trimB s.data.toList 32).toArray⟩ : ByteArray).toList.isEmpty = false)
    (hc : Lib.countB s ⟨#[32]⟩ = 1) (hsp : Lib.splitB ⟨#[32]⟩ 0 1 s = [wd, a1])
    (hFl : ∀ M, FlagM b M → M wd = none) (hOr : ∀ M, OrdM M → M wd = some (ordV 1 fm))
    (hent : ∀ args w, (callFunc fm args).run Tryz.prog w = .ok (.enter fm args) w)
    (hn1 : ∀ {w0 w : World} {F : SProp}, St w0 w F → Calls Tryz.prog 15 #[.string a1] w fun e w' => e = .returned (.tuple #[.int .i64 v1, .bool true]) ∧ St w0 w' F)
    (hcall : ∀ (w : World) (v : Value) (F' : SProp), St w0 w (sesB b l lw f out * (X * (own 3 1 v 1 [.int .i64 v1] * F'))) → Calls Tryz.prog fm #[.pointer (some ⟨b, 0, none⟩), v] w fun e w' => e = .returned (.tuple #[.string m, .int .i64 k]) ∧ ∃ l' S, R l' S ∧ St w0 w' (sesB b l' lw f out * (S * F')))
    (htell : ∀ (w : World) (l' : Value) (F' : SProp), St w0 w (sesB b l' lw f out * F') → Calls Tryz.prog 13 #[.pointer (some ⟨b, 0, none⟩), .int .i64 k, .string m] w fun e w' => (∃ v, e = .returned v) ∧ St w0 w' (sesB b l' lw f out' * F')) :
    Calls Tryz.prog 7 #[.pointer (some ⟨b, 0, none⟩), .string s] w fun e w' => e = .returned (.tuple #[]) ∧ ∃ l' S, R l' S ∧ St w0 w' (sesB b l' lw f out' * (S * F)) := by
  have hT := Tryz.strings_Trim_one s 32 (by decide) w (by omega)
  have HT := Lib.hid hT; clear hT
  have H := Lib.hid h; clear h
  have HC := Lib.hid hcall; have HTL := Lib.hid htell; have HFl := Lib.hid hFl; have HOr := Lib.hid hOr; have HE := Lib.hid hent; have HMx := Lib.hid hM; have HS := Lib.hid hsp
  clear hcall htell hFl hOr hent hM hsp
  have hi : (0 : Int) < (s.size : Int) := by omega
  have hz : ((((s[0]'h0).toNat : Nat) : Int) == 35) = false := by
    refine beq_eq_false_iff_ne.2 fun e => hs0 (UInt8.toNat_inj.1 ?_)
    have : (s[0]'h0).toNat = 35 := by omega
    rw [this]; rfl
  go_enter Tryz.func7, Tryz.ntmps7
  go_wp2_with (go_at_call 10; apply stop)
  refine on (HT.out.mono ?_)
  rintro e w1 ⟨rfl, hw⟩
  have h1 : St w0 w1 (sesB b l lw f out * (X * F)) := by
    rcases hw with rfl | rfl
    · exact H.out
    · exact H.out.drew
  clear hw H HT
  obtain ⟨t, htt⟩ : ∃ t : ByteArray, ⟨(Lib.trimB s.data.toList 32).toArray⟩ = t := ⟨_, rfl⟩
  rw [htt] at ht
  rw [htt]
  clear htt
  have hp := Tryz.strings_Split s ⟨#[32]⟩ mx w1 (by omega) (HMx.out _ h1.right.right) (by decide)
  rw [hc, HS.out] at hp
  obtain ⟨q, hq⟩ : ∃ q, w1.heap.size = q := ⟨_, rfl⟩
  rw [hq] at hp
  have h2 := h1.alloc (.cells #[.string wd, .string a1] 9)
  rw [hq] at h2
  have HP := Lib.hid hp
  have H2 := Lib.hid h2
  clear hp h1 h2 hq
  go_upto_region 2 with (go_at_call 11; refine HP.out.mono ?_; rintro e W1 ⟨rfl, rfl⟩)
  have h2 := H2.out
  clear H2 HP
  generalize w1.alloc (.cells #[.string wd, .string a1] 9) = W1 at *
  obtain ⟨B, hB⟩ : ∃ B, B = blk q (.cells #[.string wd, .string a1] 9) * (sesB b l lw f out * (X * F)) := ⟨_, rfl⟩
  have h3 : St w0 W1.drew B := by rw [hB]; exact h2.drew
  have hQ : ∀ (w' : World) (G : SProp), St w0 w' (G * B) → w'.cell? ⟨q, 0, none⟩ = some (.string wd) ∧ w'.cell? ⟨q, 1, none⟩ = some (.string a1) := fun w' G h' => by
    rw [hB] at h'
    have h2 := h'.right
    exact ⟨h2.cell 0 rfl, h2.cell 1 rfl⟩
  have HB := Lib.hid hB; have HQ := Lib.hid hQ
  clear h2 hB hQ
  refine wp_region_noPanic ?_
  refine region_till (S := fun w' : World => ∃ G, St w0 w' (G * B)) (k := 7) (by kernel_rfl) ?_
  have hS : (fun w' : World => ∃ G, St w0 w' (G * B)) W1.drew := ⟨emp, h3.perm (emp_star _).symm⟩
  refine till_take0 (i := 0) (oi := ?_) (v := ?_) ?_ (by kernel_rfl) (by kernel_rfl) (by kernel_rfl) (by decide) (fun _ _ _ h => h.elim) (by assumption) (.inl ⟨?_, fun w => ?_⟩) ?_
  rotate_left 2
  · (simp only [List.getElem?_toArray, List.getElem?_cons_succ, List.getElem?_cons_zero]; rfl)
  · rfl
  · (go_simp; try with_reducible rfl)
  simp only [Act.put, List.setIfInBounds_toArray, List.set_cons_zero, List.set_cons_succ]
  refine till_take0 (i := 1) (oi := ?_) (v := ?_) ?_ (by kernel_rfl) (by kernel_rfl) (by kernel_rfl) (by decide) (fun _ _ _ h => h.elim) (by assumption) (.inl ⟨?_, fun w => ?_⟩) ?_
  rotate_left 2
  · (simp only [List.getElem?_toArray, List.getElem?_cons_succ, List.getElem?_cons_zero]; rfl)
  · rfl
  · (go_simp; try with_reducible rfl)
  simp only [Act.put, List.setIfInBounds_toArray, List.set_cons_zero, List.set_cons_succ]
  refine till_take0 (i := 2) (oi := ?_) (v := ?_) ?_ (by kernel_rfl) (by kernel_rfl) (by kernel_rfl) (by decide) (fun _ _ _ h => h.elim) (by assumption) (.inl ⟨?_, fun w => ?_⟩) ?_
  rotate_left 2
  · (simp only [List.getElem?_toArray, List.getElem?_cons_succ, List.getElem?_cons_zero]; rfl)
  · rfl
  · (go_simp; try with_reducible rfl)
  simp only [Act.put, List.setIfInBounds_toArray, List.set_cons_zero, List.set_cons_succ]
  refine till_take0 (i := 4) (oi := ?_) (v := ?_) ?_ (by kernel_rfl) (by kernel_rfl) (by kernel_rfl) (by decide) (fun _ _ _ h => h.elim) (by assumption) (.inl ⟨?_, fun w => ?_⟩) ?_
  rotate_left 2
  · (simp only [List.getElem?_toArray, List.getElem?_cons_succ, List.getElem?_cons_zero]; rfl)
  · rfl
  · (go_simp; try with_reducible rfl)
  simp only [Act.put, List.setIfInBounds_toArray, List.set_cons_zero, List.set_cons_succ]
  refine till_take0 (i := 5) (oi := ?_) (v := ?_) ?_ (by kernel_rfl) (by kernel_rfl) (by kernel_rfl) (by decide) (fun _ _ _ h => h.elim) (by assumption) (.inl ⟨?_, fun w => ?_⟩) ?_
  rotate_left 2
  · (simp only [List.getElem?_toArray, List.getElem?_cons_succ, List.getElem?_cons_zero]; rfl)
  · rfl
  · (go_simp; try with_reducible rfl)
  simp only [Act.put, List.setIfInBounds_toArray, List.set_cons_zero, List.set_cons_succ]
  refine till_take (i := 6) (oi := ?_) (v := ?_) ?_ (by kernel_rfl) (by kernel_rfl) (by kernel_rfl) (by kernel_rfl) (by kernel_rfl) (fun _ _ _ h => h.elim) (by assumption) (.inl ⟨?_, fun w9 hSw => ?_⟩) ?_
  rotate_left 2
  · (simp only [List.getElem?_toArray, List.getElem?_cons_succ, List.getElem?_cons_zero]; rfl)
  · rfl
  · (obtain ⟨G9, hG9⟩ := hSw; obtain ⟨f0, f1⟩ := HQ.out _ _ hG9; clear hG9; go_simp; try with_reducible rfl)
  simp only [Act.put, List.setIfInBounds_toArray, List.set_cons_zero, List.set_cons_succ]
  refine till_one (i := 3) (by kernel_rfl) ?_
  refine wpOp_callv (args := #[.pointer (some ⟨b, 1, none⟩)]) rfl rfl (.func 12) #[.tmp 29] _ rfl rfl (by kernel_rfl) (fun args w => enters_of Tryz.func12 (by kernel_rfl) rfl args w) ((flags_any h3 b).mono ?_)
  rintro e W2 ⟨mf, hmf⟩
  obtain ⟨M, rfl, hFM, h4⟩ : ∃ M, e = .returned (.map (some mf)) ∧ FlagM b M ∧ St w0 W2 (mapK mf M * B) := by
    obtain ⟨M, e1, e2, e3⟩ := hmf
    exact ⟨M, e1, e2, e3⟩
  refine ⟨_, rfl, fun _ => ⟨_, h4⟩, ?_⟩
  simp only [Act.put, List.setIfInBounds_toArray, List.set_cons_zero, List.set_cons_succ, List.getElem_toArray, List.getElem_cons_succ, List.getElem_cons_zero]
  have hS2 : (fun w' : World => ∃ G, St w0 w' (G * B)) W2 := ⟨_, h4⟩
  have hlk := HFl.out M hFM
  refine till_one (i := 7) (by kernel_rfl) ?_
  refine wpOp_runTo rfl rfl (v := .tuple #[.pointer none, .bool false]) (w' := W2) ((exec_lookupK (z := .pointer none) (.tmp 30) (.tmp 33) rfl Tryz.underlying51 Tryz.underlying9 h4 rfl rfl (by kernel_rfl)).trans (by rw [hlk]; rfl)) ⟨fun _ => hS2, ?_⟩
  simp only [Act.put, List.setIfInBounds_toArray, List.set_cons_zero, List.set_cons_succ, List.getElem_toArray, List.getElem_cons_succ, List.getElem_cons_zero]
  refine till_take0 (i := 8) (oi := ?_) (v := ?_) ?_ (by kernel_rfl) (by kernel_rfl) (by kernel_rfl) (by decide) (fun _ _ _ h => h.elim) (by assumption) (.inl ⟨?_, fun w => ?_⟩) ?_
  rotate_left 2
  · (simp only [List.getElem?_toArray, List.getElem?_cons_succ, List.getElem?_cons_zero]; rfl)
  · rfl
  · (go_simp; try with_reducible rfl)
  simp only [Act.put, List.setIfInBounds_toArray, List.set_cons_zero, List.set_cons_succ]
  refine till_take0 (i := 9) (oi := ?_) (v := ?_) ?_ (by kernel_rfl) (by kernel_rfl) (by kernel_rfl) (by decide) (fun _ _ _ h => h.elim) (by assumption) (.inl ⟨?_, fun w => ?_⟩) ?_
  rotate_left 2
  · (simp only [List.getElem?_toArray, List.getElem?_cons_succ, List.getElem?_cons_zero]; rfl)
  · rfl
  · (go_simp; try with_reducible rfl)
  simp only [Act.put, List.setIfInBounds_toArray, List.set_cons_zero, List.set_cons_succ]
  refine till_take0 (i := 10) (oi := ?_) (v := ?_) ?_ (by kernel_rfl) (by kernel_rfl) (by kernel_rfl) (by decide) (fun _ _ _ h => h.elim) (by assumption) (.inl ⟨?_, fun w => ?_⟩) ?_
  rotate_left 2
  · (simp only [List.getElem?_toArray, List.getElem?_cons_succ, List.getElem?_cons_zero]; rfl)
  · rfl
  · (go_simp; try with_reducible rfl)
  simp only [Act.put, List.setIfInBounds_toArray, List.set_cons_zero, List.set_cons_succ]
  refine till_take0 (i := 11) (oi := ?_) (v := ?_) ?_ (by kernel_rfl) (by kernel_rfl) (by kernel_rfl) (by decide) (fun _ _ _ h => h.elim) (by assumption) (.inl ⟨?_, fun w => ?_⟩) ?_
  rotate_left 2
  · (simp only [List.getElem?_toArray, List.getElem?_cons_succ, List.getElem?_cons_zero]; rfl)
  · rfl
  · (go_simp; try with_reducible rfl)
  simp only [Act.put, List.setIfInBounds_toArray, List.set_cons_zero, List.set_cons_succ]
  refine till_take0 (i := 12) (oi := ?_) (v := ?_) ?_ (by kernel_rfl) (by kernel_rfl) (by kernel_rfl) (by decide) (fun _ _ _ h => h.elim) (by assumption) (.inl ⟨?_, fun w => ?_⟩) ?_
  rotate_left 2
  · (simp only [List.getElem?_toArray, List.getElem?_cons_succ, List.getElem?_cons_zero]; rfl)
  · rfl
  · (go_simp; try with_reducible rfl)
  simp only [Act.put, List.setIfInBounds_toArray, List.set_cons_zero, List.set_cons_succ]
  refine ⟨by kernel_rfl, NoPanic.normal ?_⟩
  clear hS hS2 h3
  obtain ⟨f0, f1⟩ := HQ.out _ _ h4
  go_upto_region 6 with (fail)
  clear f0 f1
  have h5 := h4.right.drew
  clear h4
  refine wp_region_noPanic ?_
  refine region_till (S := fun w' : World => ∃ G, St w0 w' (G * B)) (k := 4) (by kernel_rfl) ?_
  have hS : (fun w' : World => ∃ G, St w0 w' (G * B)) W2.drew := ⟨emp, h5.perm (emp_star _).symm⟩
  refine till_take0 (i := 1) (oi := ?_) (v := ?_) ?_ (by kernel_rfl) (by kernel_rfl) (by kernel_rfl) (by decide) (fun _ _ _ h => h.elim) (by assumption) (.inl ⟨?_, fun w => ?_⟩) ?_
  rotate_left 2
  · (simp only [List.getElem?_toArray, List.getElem?_cons_succ, List.getElem?_cons_zero]; rfl)
  · rfl
  · (go_simp; try with_reducible rfl)
  simp only [Act.put, List.setIfInBounds_toArray, List.set_cons_zero, List.set_cons_succ]
  refine till_take0 (i := 2) (oi := ?_) (v := ?_) ?_ (by kernel_rfl) (by kernel_rfl) (by kernel_rfl) (by decide) (fun _ _ _ h => h.elim) (by assumption) (.inl ⟨?_, fun w => ?_⟩) ?_
  rotate_left 2
  · (simp only [List.getElem?_toArray, List.getElem?_cons_succ, List.getElem?_cons_zero]; rfl)
  · rfl
  · (go_simp; try with_reducible rfl)
  simp only [Act.put, List.setIfInBounds_toArray, List.set_cons_zero, List.set_cons_succ]
  refine till_take (i := 3) (oi := ?_) (v := ?_) ?_ (by kernel_rfl) (by kernel_rfl) (by kernel_rfl) (by kernel_rfl) (by kernel_rfl) (fun _ _ _ h => h.elim) (by assumption) (.inl ⟨?_, fun w9 hSw => ?_⟩) ?_
  rotate_left 2
  · (simp only [List.getElem?_toArray, List.getElem?_cons_succ, List.getElem?_cons_zero]; rfl)
  · rfl
  · (obtain ⟨G9, hG9⟩ := hSw; obtain ⟨f0, f1⟩ := HQ.out _ _ hG9; clear hG9; go_simp; try with_reducible rfl)
  simp only [Act.put, List.setIfInBounds_toArray, List.set_cons_zero, List.set_cons_succ]
  have hlo := Lib.hid (fun M (hM : OrdM M) => HOr.out M hM)
  refine till_phaseG (S := fun w' : World => ∃ G, St w0 w' (G * B)) (Inv6 w0 B 1 fm) [0, 4, 5, 6, 7, 8, 9] 125 (fun σ w' h => Exists.intro (pMo (σ 0) * pAl 1 fm (σ 9).isSome (σ 8)) (h.st.perm (star_assoc _ _ _).symm)) (by kernel_rfl) (by rfl) ?_ 1 (by rfl) ?_ ?_
  · intro i hi σ a W9 K hσ hw hsz9 hev hval hI hK
    obtain ⟨hst, h98, k4, k5, k6, k7⟩ := hI
    have e72 : a.eval (.tmp 72) = .string wd := hev 72 (by decide)
    clear hev
    simp only [List.mem_cons, List.not_mem_nil, or_false] at hi
    rcases hi with rfl | rfl | rfl | rfl | rfl | rfl | rfl
    · rw [hσ] at hst
      have hst : St w0 W9 (emp * (pAl 1 fm (σ 9).isSome (σ 8) * B)) := hst
      rw [emp_star] at hst
      refine wpOp_callv (args := #[]) rfl rfl (.func 14) #[] _ rfl rfl (by kernel_rfl) (fun args w => enters_of Tryz.func14 (by kernel_rfl) rfl args w) ((orders_any hst).mono ?_)
      rintro e W3 ⟨mo, hmo⟩
      obtain ⟨M2, rfl, hOM, h6⟩ : ∃ M, e = .returned (.map (some mo)) ∧ OrdM M ∧ St w0 W3 (mapK mo M * (pAl 1 fm (σ 9).isSome (σ 8) * B)) := by
        obtain ⟨M, e1, e2, e3⟩ := hmo
        exact ⟨M, e1, e2, e3⟩
      refine ⟨_, rfl, hK _ _ ⟨?_, h98, k4, k5, k6, k7⟩⟩
      exact St.mk_ex_l (mo, M2) ((St.mk_pure_l ⟨rfl, hOM⟩ h6).perm (star_assoc _ _ _).symm)
    · obtain ⟨v0, hv0⟩ := Option.isSome_iff_exists.1 (hw 0 (by decide) (by kernel_rfl))
      have e69 : a.eval (.tmp 69) = v0 := hval 0 v0 hv0 (by kernel_rfl)
      have hst2 := hst
      rw [hv0] at hst2
      obtain ⟨⟨mo, M2⟩, hs2⟩ := St.ex_l hst2
      obtain ⟨⟨hv, hOM⟩, h6⟩ := (hs2.perm (star_assoc _ _ _)).pure_l
      have h6 : St w0 W9 (mapK mo M2 * (pAl 1 fm (σ 9).isSome (σ 8) * B)) := h6
      have hlk := hlo.out M2 hOM
      refine wpOp_runTo rfl rfl (v := .tuple #[ordV 1 fm, .bool true]) (w' := W9) ((exec_lookupK (z := .agg #[.int .i64 0, .nilFunc]) (.tmp 69) (.tmp 72) rfl Tryz.underlying59 Tryz.underlying9 h6 (e69.trans hv) e72 (by kernel_rfl)).trans (by rw [hlk]; rfl)) (hK _ _ ⟨hst, h98, ?_, k5, k6, k7⟩)
      intro v hv9
      exact (Option.some.inj hv9).symm
    · obtain ⟨v4, hv4⟩ := Option.isSome_iff_exists.1 (hw 4 (by decide) (by kernel_rfl))
      have e73 : a.eval (.tmp 73) = .tuple #[ordV 1 fm, .bool true] := (hval 4 v4 hv4 (by kernel_rfl)).trans (k4 _ hv4)
      refine wpOp_runTo rfl rfl (v := .tuple #[ordV 1 fm, .bool true]) (w' := W9) (exec_move (.tmp 73) rfl e73) (hK _ _ ⟨hst, h98, k4, ?_, k6, k7⟩)
      intro v hv9
      exact (Option.some.inj hv9).symm
    · obtain ⟨v5, hv5⟩ := Option.isSome_iff_exists.1 (hw 5 (by decide) (by kernel_rfl))
      have e68 : a.eval (.tmp 68) = .tuple #[ordV 1 fm, .bool true] := (hval 5 v5 hv5 (by kernel_rfl)).trans (k5 _ hv5)
      refine wpOp_runTo rfl rfl (v := ordV 1 fm) (w' := W9) (exec_extract (.tmp 68) 0 rfl e68 rfl) (hK _ _ ⟨hst, h98, k4, k5, ?_, k7⟩)
      intro v hv9
      exact (Option.some.inj hv9).symm
    · obtain ⟨v5, hv5⟩ := Option.isSome_iff_exists.1 (hw 5 (by decide) (by kernel_rfl))
      have e68 : a.eval (.tmp 68) = .tuple #[ordV 1 fm, .bool true] := (hval 5 v5 hv5 (by kernel_rfl)).trans (k5 _ hv5)
      refine wpOp_runTo rfl rfl (v := .bool true) (w' := W9) (exec_extract (.tmp 68) 1 rfl e68 rfl) (hK _ _ ⟨hst, h98, k4, k5, k6, ?_⟩)
      intro v hv9
      exact (Option.some.inj hv9).symm
    · have h9 := h98 hσ
      rw [hσ] at hst
      have hst : St w0 W9 (pMo (σ 0) * (emp * B)) := hst
      rw [emp_star] at hst
      have ha := (hst.alloc (.cells #[.int .i64 0, .nilFunc] 57)).perm (star_left_comm _ _ _)
      refine wpOp_runTo rfl rfl (v := .pointer (some ⟨W9.heap.size, 0, none⟩)) (w' := W9.alloc (.cells #[.int .i64 0, .nilFunc] 57)) (by kernel_rfl) (hK _ _ ⟨?_, fun h => nn h, k4, k5, k6, k7⟩)
      show St w0 _ (pMo (σ 0) * (pAl 1 fm (σ 9).isSome (some _) * B))
      rw [h9]
      refine St.perm ?_ (star_left_comm _ _ _)
      exact St.mk_ex_l W9.heap.size ((St.mk_pure_l rfl (ha.perm (star_left_comm _ _ _))).perm (star_assoc _ _ _).symm)
    · obtain ⟨v6, hv6⟩ := Option.isSome_iff_exists.1 (hw 6 (by decide) (by kernel_rfl))
      obtain ⟨v8, hv8⟩ := Option.isSome_iff_exists.1 (hw 8 (by decide) (by kernel_rfl))
      have e74 : a.eval (.tmp 74) = ordV 1 fm := (hval 6 v6 hv6 (by kernel_rfl)).trans (k6 _ hv6)
      have e7 : a.eval (.tmp 7) = v8 := hval 8 v8 hv8 (by kernel_rfl)
      rw [hσ, hv8] at hst
      obtain ⟨x, hx⟩ := St.ex_l (hst.perm (star_left_comm _ _ _))
      obtain ⟨hv, h6⟩ := (hx.perm (star_assoc _ _ _)).pure_l
      have h6 : St w0 W9 (blk x (.cells #[.int .i64 0, .nilFunc] 57) * (pMo (σ 0) * B)) := h6
      refine wpOp_store (cells := #[.int .i64 1, .func (.func fm) #[] #[]]) rfl rfl 57 (.tmp 7) (.tmp 74) rfl h6 (e7.trans hv) e74 (by show _ = some 2; kernel_rfl) rfl rfl ?_
      have hk := hK undef (W9.setRow x #[.int .i64 1, .func (.func fm) #[] #[]]) ⟨?_, fun h => nn (hv8.symm.trans h), k4, k5, k6, k7⟩
      · rw [put_big hsz9 (by kernel_rfl)] at hk
        exact hk
      · show St w0 _ (pMo (σ 0) * (pAl 1 fm true (σ 8) * B))
        rw [hv8]
        refine St.perm ?_ (star_left_comm _ _ _)
        exact St.mk_ex_l x ((St.mk_pure_l hv (h6.setRow _)).perm (star_assoc _ _ _).symm)
  · exact ⟨by show St w0 W2.drew (emp * (emp * B)); rw [emp_star, emp_star]; exact h5, fun _ => rfl, fun v hv => (by cases hv), fun v hv => (by cases hv), fun v hv => (by cases hv), fun v hv => (by cases hv)⟩
  intro vs W3 hI
  obtain ⟨hst, -, k4, k5, k6, k7⟩ := hI
  have hst : St w0 W3 (pMo (some (vs 0)) * (pAl 1 fm true (some (vs 8)) * B)) := hst
  have e4 : vs 4 = .tuple #[ordV 1 fm, .bool true] := k4 _ rfl
  have e5 : vs 5 = .tuple #[ordV 1 fm, .bool true] := k5 _ rfl
  have e6 : vs 6 = ordV 1 fm := k6 _ rfl
  have e7 : vs 7 = .bool true := k7 _ rfl
  obtain ⟨x, hx⟩ := St.ex_l (hst.perm (star_left_comm _ _ _))
  obtain ⟨e8, h6⟩ := (hx.perm (star_assoc _ _ _)).pure_l
  have h6 : St w0 W3 (blk x (.cells #[.int .i64 1, .func (.func fm) #[] #[]] 57) * (pMo (some (vs 0)) * B)) := h6
  have h8 := h6.perm (show _ = pMo (some (vs 0)) * (blk x (.cells #[.int .i64 1, .func (.func fm) #[] #[]] 57) * B) by ac_rfl)
  have h8 := h8.right
  clear hx hst k4 k5 k6 k7 h6 hlo hS h5
  change anyTill _ _ _ _ _ _ _ _ (putsR _ [(69, vs 0), (73, vs 4), (68, vs 5), (74, vs 6), (75, vs 7), (7, vs 8), (100009, vs 9)]) _
  rw [e4, e5, e6, e7, e8]
  obtain ⟨z0, hz0⟩ : ∃ z, vs 0 = z := ⟨_, rfl⟩
  rw [hz0]
  clear e4 e5 e6 e7 e8 hz0
  simp only [putsR, Act.put, List.setIfInBounds_toArray, List.set_cons_zero, List.set_cons_succ]
  refine till_one (i := 10) (by kernel_rfl) ?_
  refine wpOp_runTo rfl rfl (v := .bool true) (w' := W3) (by kernel_rfl) ⟨fun _ => ⟨_, h8⟩, ?_⟩
  simp only [Act.put, List.setIfInBounds_toArray, List.set_cons_zero, List.set_cons_succ, List.getElem_toArray, List.getElem_cons_succ, List.getElem_cons_zero]
  refine ⟨by kernel_rfl, NoPanic.normal ?_⟩
  obtain ⟨C, hC⟩ : ∃ C, C = blk x (.cells #[.int .i64 1, .func (.func fm) #[] #[]] 57) * B := ⟨_, rfl⟩
  rw [← hC] at h8
  have hV : ∀ (w' : World) (G : SProp), St w0 w' (G * C) → (w'.cell? ⟨q, 0, none⟩ = some (.string wd) ∧ w'.cell? ⟨q, 1, none⟩ = some (.string a1)) ∧ w'.cell? ⟨x, 0, none⟩ = some (.int .i64 1) ∧ w'.cell? ⟨x, 1, none⟩ = some (.func (.func fm) #[] #[]) := fun w' G h' => by
    rw [hC] at h'
    exact ⟨HQ.out w' (G * blk x (.cells #[.int .i64 1, .func (.func fm) #[] #[]] 57)) (h'.perm (star_assoc _ _ _).symm), h'.right.cell 0 rfl, h'.right.cell 1 rfl⟩
  have hU : ∀ (w' : World) (v : Value), St w0 w' (own 3 1 v 1 [.int .i64 v1] * C) → St w0 w' (sesB b l lw f out * (X * (own 3 1 v 1 [.int .i64 v1] * (blk x (.cells #[.int .i64 1, .func (.func fm) #[] #[]] 57) * (blk q (.cells #[.string wd, .string a1] 9) * F))))) := fun w' v h' => by
    rw [hC, HB.out] at h'
    exact h'.perm (by ac_rfl)
  have HV := Lib.hid hV; have HU := Lib.hid hU
  have H8 := Lib.hid (St.own_nil 3 1 h8)
  clear hV hU hC h8
  have T := elemInt
  obtain ⟨⟨f0, f1⟩, x0, x1⟩ := HV.out _ _ H8.out
  go_wp2
  go_loopw [79, 8, 9] (fun vi vo vl wr => ∃ k : Nat, k ≤ 1 ∧ vi = .int .i64 k ∧ vo = .bool true ∧ St w0 wr (own 3 1 vl k (([.int .i64 v1] : List Value).take k) * C)) (fun vi _ _ _ => 1 - (intOf vi).toNat)
  case atStart => exact ⟨0, by omega, rfl, rfl, H8.out⟩
  clear H8 f0 f1 x0 x1
  case round =>
    obtain ⟨k, hk, rfl, rfl, h2⟩ := hrel
    obtain ⟨⟨f0, f1⟩, x0, x1⟩ := HV.out _ _ h2
    obtain ⟨al, cl, rfl⟩ := h2.reads.sub
    have H2 := Lib.hid h2; clear h2
    rcases (by omega : k = 0 ∨ k = 1) with rfl | rfl
    · go_wp2_with (first
        | (go_at_call 15; refine (hn1 H2.out).mono ?_; rintro e w1 ⟨rfl, h3⟩; have H3 := Lib.hid h3; clear h3 H2)
        | (at_builtin; apply stop))
      refine on (wpList_append_sep T rfl _ _ rfl rfl (H3.out.drop_alloc (.cells #[.int .i64 v1] 3)) rfl ((H3.out.lit #[.int .i64 v1] 3 1 rfl (by decide)).reads) (by intro u hu; simp at hu; subst hu; rfl) (by decide) (by decide) ?_)
      intro v' w2 h4 _
      have H4 := Lib.hid (show St w0 w2 (own 3 1 v' 1 (([.int .i64 v1] : List Value).take 1) * C) from h4)
      clear h4 H3 f0 f1 x0 x1
      go_wp2
      exact ⟨⟨1, by omega, by go_num, rfl, H4.out⟩, by simp [intOf]⟩
    · have H9 := Lib.hid (HC.out _ _ _ (HU.out _ _ H2.out))
      clear H2
      have hE := HE.out
      go_wp2_with fail
      refine H9.out.mono ?_
      rintro e w2 ⟨rfl, l2, S2, hR2, h5⟩
      have HT5 := Lib.hid (HTL.out w2 l2 _ h5)
      clear H9 h5 HC HTL HFl HOr HMx HQ HV HU HB f0 f1 x0 x1 hE
      go_wp2_with (go_at_call 13; refine HT5.out.mono ?_; rintro e w3 ⟨⟨v9, rfl⟩, h6⟩; have H6 := Lib.hid h6; clear h6 HT5)
      go_end0
      exact ⟨rfl, l2, S2, hR2, (H6.out.perm (show _ = (blk x (.cells #[.int .i64 1, .func (.func fm) #[] #[]] 57) * blk q (.cells #[.string wd, .string a1] 9)) * (sesB b l2 lw f out' * (S2 * F)) by ac_rfl)).right⟩
#print axioms line_ord1

set_option maxHeartbeats 40000000 in
theorem line_ord2 {w0 w : World} {b : Nat} {mx : Int} {l f : Value} {lw : Bool} {out out' : List UInt8} {X F : SProp} {R : Value → SProp → Prop} {fm : Nat} {s wd : ByteArray} {a1 a2 : ByteArray} {v1 v2 : Int} {m : ByteArray} {k : Int}
    (h : St w0 w (sesB b l lw f out * (X * F))) (hM : ∀ w', St w0 w' F → w'.cell? ⟨2, 0, none⟩ = some (.int .i64 mx))
    (h0 : 0 < s.size) (hs0 : s[0]'h0 ≠ 35) (hs : s.size ≤ 200) (ht : (⟨(Lib.trimB s.data.toList 32).toArray⟩ : ByteArray).toList.isEmpty = false)
    (hc : Lib.countB s ⟨#[32]⟩ = 2) (hsp : Lib.splitB ⟨#[32]⟩ 0 2 s = [wd, a1, a2])
    (hFl : ∀ M, FlagM b M → M wd = none) (hOr : ∀ M, OrdM M → M wd = some (ordV 2 fm))
    (hent : ∀ args w, (callFunc fm args).run Tryz.prog w = .ok (.enter fm args) w)
    (hn1 : ∀ {w0 w : World} {F : SProp}, St w0 w F → Calls Tryz.prog 15 #[.string a1] w fun e w' => e = .returned (.tuple #[.int .i64 v1, .bool true]) ∧ St w0 w' F)
    (hn2 : ∀ {w0 w : World} {F : SProp}, St w0 w F → Calls Tryz.prog 15 #[.string a2] w fun e w' => e = .returned (.tuple #[.int .i64 v2, .bool true]) ∧ St w0 w' F)
    (hcall : ∀ (w : World) (v : Value) (F' : SProp), St w0 w (sesB b l lw f out * (X * (own 3 1 v 2 [.int .i64 v1, .int .i64 v2] * F'))) → Calls Tryz.prog fm #[.pointer (some ⟨b, 0, none⟩), v] w fun e w' => e = .returned (.tuple #[.string m, .int .i64 k]) ∧ ∃ l' S, R l' S ∧ St w0 w' (sesB b l' lw f out * (S * F')))
    (htell : ∀ (w : World) (l' : Value) (F' : SProp), St w0 w (sesB b l' lw f out * F') → Calls Tryz.prog 13 #[.pointer (some ⟨b, 0, none⟩), .int .i64 k, .string m] w fun e w' => (∃ v, e = .returned v) ∧ St w0 w' (sesB b l' lw f out' * F')) :
    Calls Tryz.prog 7 #[.pointer (some ⟨b, 0, none⟩), .string s] w fun e w' => e = .returned (.tuple #[]) ∧ ∃ l' S, R l' S ∧ St w0 w' (sesB b l' lw f out' * (S * F)) := by
  have hT := Tryz.strings_Trim_one s 32 (by decide) w (by omega)
  have HT := Lib.hid hT; clear hT
  have H := Lib.hid h; clear h
  have HC := Lib.hid hcall; have HTL := Lib.hid htell; have HFl := Lib.hid hFl; have HOr := Lib.hid hOr; have HE := Lib.hid hent; have HMx := Lib.hid hM; have HS := Lib.hid hsp
  clear hcall htell hFl hOr hent hM hsp
  have hi : (0 : Int) < (s.size : Int) := by omega
  have hz : ((((s[0]'h0).toNat : Nat) : Int) == 35) = false := by
    refine beq_eq_false_iff_ne.2 fun e => hs0 (UInt8.toNat_inj.1 ?_)
    have : (s[0]'h0).toNat = 35 := by omega
    rw [this]; rfl
  go_enter Tryz.func7, Tryz.ntmps7
  go_wp2_with (go_at_call 10; apply stop)
  refine on (HT.out.mono ?_)
  rintro e w1 ⟨rfl, hw⟩
  have h1 : St w0 w1 (sesB b l lw f out * (X * F)) := by
    rcases hw with rfl | rfl
    · exact H.out
    · exact H.out.drew
  clear hw H HT
  obtain ⟨t, htt⟩ : ∃ t : ByteArray, ⟨(Lib.trimB s.data.toList 32).toArray⟩ = t := ⟨_, rfl⟩
  rw [htt] at ht
  rw [htt]
  clear htt
  have hp := Tryz.strings_Split s ⟨#[32]⟩ mx w1 (by omega) (HMx.out _ h1.right.right) (by decide)
  rw [hc, HS.out] at hp
  obtain ⟨q, hq⟩ : ∃ q, w1.heap.size = q := ⟨_, rfl⟩
  rw [hq] at hp
  have h2 := h1.alloc (.cells #[.string wd, .string a1, .string a2] 9)
  rw [hq] at h2
  have HP := Lib.hid hp
  have H2 := Lib.hid h2
  clear hp h1 h2 hq
  go_upto_region 2 with (go_at_call 11; refine HP.out.mono ?_; rintro e W1 ⟨rfl, rfl⟩)
  have h2 := H2.out
  clear H2 HP
  generalize w1.alloc (.cells #[.string wd, .string a1, .string a2] 9) = W1 at *
  obtain ⟨B, hB⟩ : ∃ B, B = blk q (.cells #[.string wd, .string a1, .string a2] 9) * (sesB b l lw f out * (X * F)) := ⟨_, rfl⟩
  have h3 : St w0 W1.drew B := by rw [hB]; exact h2.drew
  have hQ : ∀ (w' : World) (G : SProp), St w0 w' (G * B) → w'.cell? ⟨q, 0, none⟩ = some (.string wd) ∧ w'.cell? ⟨q, 1, none⟩ = some (.string a1) ∧ w'.cell? ⟨q, 2, none⟩ = some (.string a2) := fun w' G h' => by
    rw [hB] at h'
    have h2 := h'.right
    exact ⟨h2.cell 0 rfl, h2.cell 1 rfl, h2.cell 2 rfl⟩
  have HB := Lib.hid hB; have HQ := Lib.hid hQ
  clear h2 hB hQ
  refine wp_region_noPanic ?_
  refine region_till (S := fun w' : World => ∃ G, St w0 w' (G * B)) (k := 7) (by kernel_rfl) ?_
  have hS : (fun w' : World => ∃ G, St w0 w' (G * B)) W1.drew := ⟨emp, h3.perm (emp_star _).symm⟩
  refine till_take0 (i := 0) (oi := ?_) (v := ?_) ?_ (by kernel_rfl) (by kernel_rfl) (by kernel_rfl) (by decide) (fun _ _ _ h => h.elim) (by assumption) (.inl ⟨?_, fun w => ?_⟩) ?_
  rotate_left 2
  · (simp only [List.getElem?_toArray, List.getElem?_cons_succ, List.getElem?_cons_zero]; rfl)
  · rfl
  · (go_simp; try with_reducible rfl)
  simp only [Act.put, List.setIfInBounds_toArray, List.set_cons_zero, List.set_cons_succ]
  refine till_take0 (i := 1) (oi := ?_) (v := ?_) ?_ (by kernel_rfl) (by kernel_rfl) (by kernel_rfl) (by decide) (fun _ _ _ h => h.elim) (by assumption) (.inl ⟨?_, fun w => ?_⟩) ?_
  rotate_left 2
  · (simp only [List.getElem?_toArray, List.getElem?_cons_succ, List.getElem?_cons_zero]; rfl)
  · rfl
  · (go_simp; try with_reducible rfl)
  simp only [Act.put, List.setIfInBounds_toArray, List.set_cons_zero, List.set_cons_succ]
  refine till_take0 (i := 2) (oi := ?_) (v := ?_) ?_ (by kernel_rfl) (by kernel_rfl) (by kernel_rfl) (by decide) (fun _ _ _ h => h.elim) (by assumption) (.inl ⟨?_, fun w => ?_⟩) ?_
  rotate_left 2
  · (simp only [List.getElem?_toArray, List.getElem?_cons_succ, List.getElem?_cons_zero]; rfl)
  · rfl
  · (go_simp; try with_reducible rfl)
  simp only [Act.put, List.setIfInBounds_toArray, List.set_cons_zero, List.set_cons_succ]
  refine till_take0 (i := 4) (oi := ?_) (v := ?_) ?_ (by kernel_rfl) (by kernel_rfl) (by kernel_rfl) (by decide) (fun _ _ _ h => h.elim) (by assumption) (.inl ⟨?_, fun w => ?_⟩) ?_
  rotate_left 2
  · (simp only [List.getElem?_toArray, List.getElem?_cons_succ, List.getElem?_cons_zero]; rfl)
  · rfl
  · (go_simp; try with_reducible rfl)
  simp only [Act.put, List.setIfInBounds_toArray, List.set_cons_zero, List.set_cons_succ]
  refine till_take0 (i := 5) (oi := ?_) (v := ?_) ?_ (by kernel_rfl) (by kernel_rfl) (by kernel_rfl) (by decide) (fun _ _ _ h => h.elim) (by assumption) (.inl ⟨?_, fun w => ?_⟩) ?_
  rotate_left 2
  · (simp only [List.getElem?_toArray, List.getElem?_cons_succ, List.getElem?_cons_zero]; rfl)
  · rfl
  · (go_simp; try with_reducible rfl)
  simp only [Act.put, List.setIfInBounds_toArray, List.set_cons_zero, List.set_cons_succ]
  refine till_take (i := 6) (oi := ?_) (v := ?_) ?_ (by kernel_rfl) (by kernel_rfl) (by kernel_rfl) (by kernel_rfl) (by kernel_rfl) (fun _ _ _ h => h.elim) (by assumption) (.inl ⟨?_, fun w9 hSw => ?_⟩) ?_
  rotate_left 2
  · (simp only [List.getElem?_toArray, List.getElem?_cons_succ, List.getElem?_cons_zero]; rfl)
  · rfl
  · (obtain ⟨G9, hG9⟩ := hSw; obtain ⟨f0, f1, f2⟩ := HQ.out _ _ hG9; clear hG9; go_simp; try with_reducible rfl)
  simp only [Act.put, List.setIfInBounds_toArray, List.set_cons_zero, List.set_cons_succ]
  refine till_one (i := 3) (by kernel_rfl) ?_
  refine wpOp_callv (args := #[.pointer (some ⟨b, 1, none⟩)]) rfl rfl (.func 12) #[.tmp 29] _ rfl rfl (by kernel_rfl) (fun args w => enters_of Tryz.func12 (by kernel_rfl) rfl args w) ((flags_any h3 b).mono ?_)
  rintro e W2 ⟨mf, hmf⟩
  obtain ⟨M, rfl, hFM, h4⟩ : ∃ M, e = .returned (.map (some mf)) ∧ FlagM b M ∧ St w0 W2 (mapK mf M * B) := by
    obtain ⟨M, e1, e2, e3⟩ := hmf
    exact ⟨M, e1, e2, e3⟩
  refine ⟨_, rfl, fun _ => ⟨_, h4⟩, ?_⟩
  simp only [Act.put, List.setIfInBounds_toArray, List.set_cons_zero, List.set_cons_succ, List.getElem_toArray, List.getElem_cons_succ, List.getElem_cons_zero]
  have hS2 : (fun w' : World => ∃ G, St w0 w' (G * B)) W2 := ⟨_, h4⟩
  have hlk := HFl.out M hFM
  refine till_one (i := 7) (by kernel_rfl) ?_
  refine wpOp_runTo rfl rfl (v := .tuple #[.pointer none, .bool false]) (w' := W2) ((exec_lookupK (z := .pointer none) (.tmp 30) (.tmp 33) rfl Tryz.underlying51 Tryz.underlying9 h4 rfl rfl (by kernel_rfl)).trans (by rw [hlk]; rfl)) ⟨fun _ => hS2, ?_⟩
  simp only [Act.put, List.setIfInBounds_toArray, List.set_cons_zero, List.set_cons_succ, List.getElem_toArray, List.getElem_cons_succ, List.getElem_cons_zero]
  refine till_take0 (i := 8) (oi := ?_) (v := ?_) ?_ (by kernel_rfl) (by kernel_rfl) (by kernel_rfl) (by decide) (fun _ _ _ h => h.elim) (by assumption) (.inl ⟨?_, fun w => ?_⟩) ?_
  rotate_left 2
  · (simp only [List.getElem?_toArray, List.getElem?_cons_succ, List.getElem?_cons_zero]; rfl)
  · rfl
  · (go_simp; try with_reducible rfl)
  simp only [Act.put, List.setIfInBounds_toArray, List.set_cons_zero, List.set_cons_succ]
  refine till_take0 (i := 9) (oi := ?_) (v := ?_) ?_ (by kernel_rfl) (by kernel_rfl) (by kernel_rfl) (by decide) (fun _ _ _ h => h.elim) (by assumption) (.inl ⟨?_, fun w => ?_⟩) ?_
  rotate_left 2
  · (simp only [List.getElem?_toArray, List.getElem?_cons_succ, List.getElem?_cons_zero]; rfl)
  · rfl
  · (go_simp; try with_reducible rfl)
  simp only [Act.put, List.setIfInBounds_toArray, List.set_cons_zero, List.set_cons_succ]
  refine till_take0 (i := 10) (oi := ?_) (v := ?_) ?_ (by kernel_rfl) (by kernel_rfl) (by kernel_rfl) (by decide) (fun _ _ _ h => h.elim) (by assumption) (.inl ⟨?_, fun w => ?_⟩) ?_
  rotate_left 2
  · (simp only [List.getElem?_toArray, List.getElem?_cons_succ, List.getElem?_cons_zero]; rfl)
  · rfl
  · (go_simp; try with_reducible rfl)
  simp only [Act.put, List.setIfInBounds_toArray, List.set_cons_zero, List.set_cons_succ]
  refine till_take0 (i := 11) (oi := ?_) (v := ?_) ?_ (by kernel_rfl) (by kernel_rfl) (by kernel_rfl) (by decide) (fun _ _ _ h => h.elim) (by assumption) (.inl ⟨?_, fun w => ?_⟩) ?_
  rotate_left 2
  · (simp only [List.getElem?_toArray, List.getElem?_cons_succ, List.getElem?_cons_zero]; rfl)
  · rfl
  · (go_simp; try with_reducible rfl)
  simp only [Act.put, List.setIfInBounds_toArray, List.set_cons_zero, List.set_cons_succ]
  refine till_take0 (i := 12) (oi := ?_) (v := ?_) ?_ (by kernel_rfl) (by kernel_rfl) (by kernel_rfl) (by decide) (fun _ _ _ h => h.elim) (by assumption) (.inl ⟨?_, fun w => ?_⟩) ?_
  rotate_left 2
  · (simp only [List.getElem?_toArray, List.getElem?_cons_succ, List.getElem?_cons_zero]; rfl)
  · rfl
  · (go_simp; try with_reducible rfl)
  simp only [Act.put, List.setIfInBounds_toArray, List.set_cons_zero, List.set_cons_succ]
  refine ⟨by kernel_rfl, NoPanic.normal ?_⟩
  clear hS hS2 h3
  obtain ⟨f0, f1, f2⟩ := HQ.out _ _ h4
  go_upto_region 6 with (fail)
  clear f0 f1 f2
  have h5 := h4.right.drew
  clear h4
  refine wp_region_noPanic ?_
  refine region_till (S := fun w' : World => ∃ G, St w0 w' (G * B)) (k := 4) (by kernel_rfl) ?_
  have hS : (fun w' : World => ∃ G, St w0 w' (G * B)) W2.drew := ⟨emp, h5.perm (emp_star _).symm⟩
  refine till_take0 (i := 1) (oi := ?_) (v := ?_) ?_ (by kernel_rfl) (by kernel_rfl) (by kernel_rfl) (by decide) (fun _ _ _ h => h.elim) (by assumption) (.inl ⟨?_, fun w => ?_⟩) ?_
  rotate_left 2
  · (simp only [List.getElem?_toArray, List.getElem?_cons_succ, List.getElem?_cons_zero]; rfl)
  · rfl
  · (go_simp; try with_reducible rfl)
  simp only [Act.put, List.setIfInBounds_toArray, List.set_cons_zero, List.set_cons_succ]
  refine till_take0 (i := 2) (oi := ?_) (v := ?_) ?_ (by kernel_rfl) (by kernel_rfl) (by kernel_rfl) (by decide) (fun _ _ _ h => h.elim) (by assumption) (.inl ⟨?_, fun w => ?_⟩) ?_
  rotate_left 2
  · (simp only [List.getElem?_toArray, List.getElem?_cons_succ, List.getElem?_cons_zero]; rfl)
  · rfl
  · (go_simp; try with_reducible rfl)
  simp only [Act.put, List.setIfInBounds_toArray, List.set_cons_zero, List.set_cons_succ]
  refine till_take (i := 3) (oi := ?_) (v := ?_) ?_ (by kernel_rfl) (by kernel_rfl) (by kernel_rfl) (by kernel_rfl) (by kernel_rfl) (fun _ _ _ h => h.elim) (by assumption) (.inl ⟨?_, fun w9 hSw => ?_⟩) ?_
  rotate_left 2
  · (simp only [List.getElem?_toArray, List.getElem?_cons_succ, List.getElem?_cons_zero]; rfl)
  · rfl
  · (obtain ⟨G9, hG9⟩ := hSw; obtain ⟨f0, f1, f2⟩ := HQ.out _ _ hG9; clear hG9; go_simp; try with_reducible rfl)
  simp only [Act.put, List.setIfInBounds_toArray, List.set_cons_zero, List.set_cons_succ]
  have hlo := Lib.hid (fun M (hM : OrdM M) => HOr.out M hM)
  refine till_phaseG (S := fun w' : World => ∃ G, St w0 w' (G * B)) (Inv6 w0 B 2 fm) [0, 4, 5, 6, 7, 8, 9] 125 (fun σ w' h => Exists.intro (pMo (σ 0) * pAl 2 fm (σ 9).isSome (σ 8)) (h.st.perm (star_assoc _ _ _).symm)) (by kernel_rfl) (by rfl) ?_ 1 (by rfl) ?_ ?_
  · intro i hi σ a W9 K hσ hw hsz9 hev hval hI hK
    obtain ⟨hst, h98, k4, k5, k6, k7⟩ := hI
    have e72 : a.eval (.tmp 72) = .string wd := hev 72 (by decide)
    clear hev
    simp only [List.mem_cons, List.not_mem_nil, or_false] at hi
    rcases hi with rfl | rfl | rfl | rfl | rfl | rfl | rfl
    · rw [hσ] at hst
      have hst : St w0 W9 (emp * (pAl 2 fm (σ 9).isSome (σ 8) * B)) := hst
      rw [emp_star] at hst
      refine wpOp_callv (args := #[]) rfl rfl (.func 14) #[] _ rfl rfl (by kernel_rfl) (fun args w => enters_of Tryz.func14 (by kernel_rfl) rfl args w) ((orders_any hst).mono ?_)
      rintro e W3 ⟨mo, hmo⟩
      obtain ⟨M2, rfl, hOM, h6⟩ : ∃ M, e = .returned (.map (some mo)) ∧ OrdM M ∧ St w0 W3 (mapK mo M * (pAl 2 fm (σ 9).isSome (σ 8) * B)) := by
        obtain ⟨M, e1, e2, e3⟩ := hmo
        exact ⟨M, e1, e2, e3⟩
      refine ⟨_, rfl, hK _ _ ⟨?_, h98, k4, k5, k6, k7⟩⟩
      exact St.mk_ex_l (mo, M2) ((St.mk_pure_l ⟨rfl, hOM⟩ h6).perm (star_assoc _ _ _).symm)
    · obtain ⟨v0, hv0⟩ := Option.isSome_iff_exists.1 (hw 0 (by decide) (by kernel_rfl))
      have e69 : a.eval (.tmp 69) = v0 := hval 0 v0 hv0 (by kernel_rfl)
      have hst2 := hst
      rw [hv0] at hst2
      obtain ⟨⟨mo, M2⟩, hs2⟩ := St.ex_l hst2
      obtain ⟨⟨hv, hOM⟩, h6⟩ := (hs2.perm (star_assoc _ _ _)).pure_l
      have h6 : St w0 W9 (mapK mo M2 * (pAl 2 fm (σ 9).isSome (σ 8) * B)) := h6
      have hlk := hlo.out M2 hOM
      refine wpOp_runTo rfl rfl (v := .tuple #[ordV 2 fm, .bool true]) (w' := W9) ((exec_lookupK (z := .agg #[.int .i64 0, .nilFunc]) (.tmp 69) (.tmp 72) rfl Tryz.underlying59 Tryz.underlying9 h6 (e69.trans hv) e72 (by kernel_rfl)).trans (by rw [hlk]; rfl)) (hK _ _ ⟨hst, h98, ?_, k5, k6, k7⟩)
      intro v hv9
      exact (Option.some.inj hv9).symm
    · obtain ⟨v4, hv4⟩ := Option.isSome_iff_exists.1 (hw 4 (by decide) (by kernel_rfl))
      have e73 : a.eval (.tmp 73) = .tuple #[ordV 2 fm, .bool true] := (hval 4 v4 hv4 (by kernel_rfl)).trans (k4 _ hv4)
      refine wpOp_runTo rfl rfl (v := .tuple #[ordV 2 fm, .bool true]) (w' := W9) (exec_move (.tmp 73) rfl e73) (hK _ _ ⟨hst, h98, k4, ?_, k6, k7⟩)
      intro v hv9
      exact (Option.some.inj hv9).symm
    · obtain ⟨v5, hv5⟩ := Option.isSome_iff_exists.1 (hw 5 (by decide) (by kernel_rfl))
      have e68 : a.eval (.tmp 68) = .tuple #[ordV 2 fm, .bool true] := (hval 5 v5 hv5 (by kernel_rfl)).trans (k5 _ hv5)
      refine wpOp_runTo rfl rfl (v := ordV 2 fm) (w' := W9) (exec_extract (.tmp 68) 0 rfl e68 rfl) (hK _ _ ⟨hst, h98, k4, k5, ?_, k7⟩)
      intro v hv9
      exact (Option.some.inj hv9).symm
    · obtain ⟨v5, hv5⟩ := Option.isSome_iff_exists.1 (hw 5 (by decide) (by kernel_rfl))
      have e68 : a.eval (.tmp 68) = .tuple #[ordV 2 fm, .bool true] := (hval 5 v5 hv5 (by kernel_rfl)).trans (k5 _ hv5)
      refine wpOp_runTo rfl rfl (v := .bool true) (w' := W9) (exec_extract (.tmp 68) 1 rfl e68 rfl) (hK _ _ ⟨hst, h98, k4, k5, k6, ?_⟩)
      intro v hv9
      exact (Option.some.inj hv9).symm
    · have h9 := h98 hσ
      rw [hσ] at hst
      have hst : St w0 W9 (pMo (σ 0) * (emp * B)) := hst
      rw [emp_star] at hst
      have ha := (hst.alloc (.cells #[.int .i64 0, .nilFunc] 57)).perm (star_left_comm _ _ _)
      refine wpOp_runTo rfl rfl (v := .pointer (some ⟨W9.heap.size, 0, none⟩)) (w' := W9.alloc (.cells #[.int .i64 0, .nilFunc] 57)) (by kernel_rfl) (hK _ _ ⟨?_, fun h => nn h, k4, k5, k6, k7⟩)
      show St w0 _ (pMo (σ 0) * (pAl 2 fm (σ 9).isSome (some _) * B))
      rw [h9]
      refine St.perm ?_ (star_left_comm _ _ _)
      exact St.mk_ex_l W9.heap.size ((St.mk_pure_l rfl (ha.perm (star_left_comm _ _ _))).perm (star_assoc _ _ _).symm)
    · obtain ⟨v6, hv6⟩ := Option.isSome_iff_exists.1 (hw 6 (by decide) (by kernel_rfl))
      obtain ⟨v8, hv8⟩ := Option.isSome_iff_exists.1 (hw 8 (by decide) (by kernel_rfl))
      have e74 : a.eval (.tmp 74) = ordV 2 fm := (hval 6 v6 hv6 (by kernel_rfl)).trans (k6 _ hv6)
      have e7 : a.eval (.tmp 7) = v8 := hval 8 v8 hv8 (by kernel_rfl)
      rw [hσ, hv8] at hst
      obtain ⟨x, hx⟩ := St.ex_l (hst.perm (star_left_comm _ _ _))
      obtain ⟨hv, h6⟩ := (hx.perm (star_assoc _ _ _)).pure_l
      have h6 : St w0 W9 (blk x (.cells #[.int .i64 0, .nilFunc] 57) * (pMo (σ 0) * B)) := h6
      refine wpOp_store (cells := #[.int .i64 2, .func (.func fm) #[] #[]]) rfl rfl 57 (.tmp 7) (.tmp 74) rfl h6 (e7.trans hv) e74 (by show _ = some 2; kernel_rfl) rfl rfl ?_
      have hk := hK undef (W9.setRow x #[.int .i64 2, .func (.func fm) #[] #[]]) ⟨?_, fun h => nn (hv8.symm.trans h), k4, k5, k6, k7⟩
      · rw [put_big hsz9 (by kernel_rfl)] at hk
        exact hk
      · show St w0 _ (pMo (σ 0) * (pAl 2 fm true (σ 8) * B))
        rw [hv8]
        refine St.perm ?_ (star_left_comm _ _ _)
        exact St.mk_ex_l x ((St.mk_pure_l hv (h6.setRow _)).perm (star_assoc _ _ _).symm)
  · exact ⟨by show St w0 W2.drew (emp * (emp * B)); rw [emp_star, emp_star]; exact h5, fun _ => rfl, fun v hv => (by cases hv), fun v hv => (by cases hv), fun v hv => (by cases hv), fun v hv => (by cases hv)⟩
  intro vs W3 hI
  obtain ⟨hst, -, k4, k5, k6, k7⟩ := hI
  have hst : St w0 W3 (pMo (some (vs 0)) * (pAl 2 fm true (some (vs 8)) * B)) := hst
  have e4 : vs 4 = .tuple #[ordV 2 fm, .bool true] := k4 _ rfl
  have e5 : vs 5 = .tuple #[ordV 2 fm, .bool true] := k5 _ rfl
  have e6 : vs 6 = ordV 2 fm := k6 _ rfl
  have e7 : vs 7 = .bool true := k7 _ rfl
  obtain ⟨x, hx⟩ := St.ex_l (hst.perm (star_left_comm _ _ _))
  obtain ⟨e8, h6⟩ := (hx.perm (star_assoc _ _ _)).pure_l
  have h6 : St w0 W3 (blk x (.cells #[.int .i64 2, .func (.func fm) #[] #[]] 57) * (pMo (some (vs 0)) * B)) := h6
  have h8 := h6.perm (show _ = pMo (some (vs 0)) * (blk x (.cells #[.int .i64 2, .func (.func fm) #[] #[]] 57) * B) by ac_rfl)
  have h8 := h8.right
  clear hx hst k4 k5 k6 k7 h6 hlo hS h5
  change anyTill _ _ _ _ _ _ _ _ (putsR _ [(69, vs 0), (73, vs 4), (68, vs 5), (74, vs 6), (75, vs 7), (7, vs 8), (100009, vs 9)]) _
  rw [e4, e5, e6, e7, e8]
  obtain ⟨z0, hz0⟩ : ∃ z, vs 0 = z := ⟨_, rfl⟩
  rw [hz0]
  clear e4 e5 e6 e7 e8 hz0
  simp only [putsR, Act.put, List.setIfInBounds_toArray, List.set_cons_zero, List.set_cons_succ]
  refine till_one (i := 10) (by kernel_rfl) ?_
  refine wpOp_runTo rfl rfl (v := .bool true) (w' := W3) (by kernel_rfl) ⟨fun _ => ⟨_, h8⟩, ?_⟩
  simp only [Act.put, List.setIfInBounds_toArray, List.set_cons_zero, List.set_cons_succ, List.getElem_toArray, List.getElem_cons_succ, List.getElem_cons_zero]
  refine ⟨by kernel_rfl, NoPanic.normal ?_⟩
  obtain ⟨C, hC⟩ : ∃ C, C = blk x (.cells #[.int .i64 2, .func (.func fm) #[] #[]] 57) * B := ⟨_, rfl⟩
  rw [← hC] at h8
  have hV : ∀ (w' : World) (G : SProp), St w0 w' (G * C) → (w'.cell? ⟨q, 0, none⟩ = some (.string wd) ∧ w'.cell? ⟨q, 1, none⟩ = some (.string a1) ∧ w'.cell? ⟨q, 2, none⟩ = some (.string a2)) ∧ w'.cell? ⟨x, 0, none⟩ = some (.int .i64 2) ∧ w'.cell? ⟨x, 1, none⟩ = some (.func (.func fm) #[] #[]) := fun w' G h' => by
    rw [hC] at h'
    exact ⟨HQ.out w' (G * blk x (.cells #[.int .i64 2, .func (.func fm) #[] #[]] 57)) (h'.perm (star_assoc _ _ _).symm), h'.right.cell 0 rfl, h'.right.cell 1 rfl⟩
  have hU : ∀ (w' : World) (v : Value), St w0 w' (own 3 1 v 2 [.int .i64 v1, .int .i64 v2] * C) → St w0 w' (sesB b l lw f out * (X * (own 3 1 v 2 [.int .i64 v1, .int .i64 v2] * (blk x (.cells #[.int .i64 2, .func (.func fm) #[] #[]] 57) * (blk q (.cells #[.string wd, .string a1, .string a2] 9) * F))))) := fun w' v h' => by
    rw [hC, HB.out] at h'
    exact h'.perm (by ac_rfl)
  have HV := Lib.hid hV; have HU := Lib.hid hU
  have H8 := Lib.hid (St.own_nil 3 1 h8)
  clear hV hU hC h8
  have T := elemInt
  obtain ⟨⟨f0, f1, f2⟩, x0, x1⟩ := HV.out _ _ H8.out
  go_wp2
  go_loopw [79, 8, 9] (fun vi vo vl wr => ∃ k : Nat, k ≤ 2 ∧ vi = .int .i64 k ∧ vo = .bool true ∧ St w0 wr (own 3 1 vl k (([.int .i64 v1, .int .i64 v2] : List Value).take k) * C)) (fun vi _ _ _ => 2 - (intOf vi).toNat)
  case atStart => exact ⟨0, by omega, rfl, rfl, H8.out⟩
  clear H8 f0 f1 f2 x0 x1
  case round =>
    obtain ⟨k, hk, rfl, rfl, h2⟩ := hrel
    obtain ⟨⟨f0, f1, f2⟩, x0, x1⟩ := HV.out _ _ h2
    obtain ⟨al, cl, rfl⟩ := h2.reads.sub
    have H2 := Lib.hid h2; clear h2
    rcases (by omega : k = 0 ∨ k = 1 ∨ k = 2) with rfl | rfl | rfl
    · go_wp2_with (first
        | (go_at_call 15; refine (hn1 H2.out).mono ?_; rintro e w1 ⟨rfl, h3⟩; have H3 := Lib.hid h3; clear h3 H2)
        | (at_builtin; apply stop))
      refine on (wpList_append_sep T rfl _ _ rfl rfl (H3.out.drop_alloc (.cells #[.int .i64 v1] 3)) rfl ((H3.out.lit #[.int .i64 v1] 3 1 rfl (by decide)).reads) (by intro u hu; simp at hu; subst hu; rfl) (by decide) (by decide) ?_)
      intro v' w2 h4 _
      have H4 := Lib.hid (show St w0 w2 (own 3 1 v' 1 (([.int .i64 v1, .int .i64 v2] : List Value).take 1) * C) from h4)
      clear h4 H3 f0 f1 f2 x0 x1
      go_wp2
      exact ⟨⟨1, by omega, by go_num, rfl, H4.out⟩, by simp [intOf]⟩
    · go_wp2_with (first
        | (go_at_call 15; refine (hn2 H2.out).mono ?_; rintro e w1 ⟨rfl, h3⟩; have H3 := Lib.hid h3; clear h3 H2)
        | (at_builtin; apply stop))
      refine on (wpList_append_sep T rfl _ _ rfl rfl (H3.out.drop_alloc (.cells #[.int .i64 v2] 3)) rfl ((H3.out.lit #[.int .i64 v2] 3 1 rfl (by decide)).reads) (by intro u hu; simp at hu; subst hu; rfl) (by decide) (by decide) ?_)
      intro v' w2 h4 _
      have H4 := Lib.hid (show St w0 w2 (own 3 1 v' 2 (([.int .i64 v1, .int .i64 v2] : List Value).take 2) * C) from h4)
      clear h4 H3 f0 f1 f2 x0 x1
      go_wp2
      exact ⟨⟨2, by omega, by go_num, rfl, H4.out⟩, by simp [intOf]⟩
    · have H9 := Lib.hid (HC.out _ _ _ (HU.out _ _ H2.out))
      clear H2
      have hE := HE.out
      go_wp2_with fail
      refine H9.out.mono ?_
      rintro e w2 ⟨rfl, l2, S2, hR2, h5⟩
      have HT5 := Lib.hid (HTL.out w2 l2 _ h5)
      clear H9 h5 HC HTL HFl HOr HMx HQ HV HU HB f0 f1 f2 x0 x1 hE
      go_wp2_with (go_at_call 13; refine HT5.out.mono ?_; rintro e w3 ⟨⟨v9, rfl⟩, h6⟩; have H6 := Lib.hid h6; clear h6 HT5)
      go_end0
      exact ⟨rfl, l2, S2, hR2, (H6.out.perm (show _ = (blk x (.cells #[.int .i64 2, .func (.func fm) #[] #[]] 57) * blk q (.cells #[.string wd, .string a1, .string a2] 9)) * (sesB b l2 lw f out' * (S2 * F)) by ac_rfl)).right⟩
#print axioms line_ord2

set_option maxHeartbeats 40000000 in
theorem line_ord4 {w0 w : World} {b : Nat} {mx : Int} {l f : Value} {lw : Bool} {out out' : List UInt8} {X F : SProp} {R : Value → SProp → Prop} {fm : Nat} {s wd : ByteArray} {a1 a2 a3 a4 : ByteArray} {v1 v2 v3 v4 : Int} {m : ByteArray} {k : Int}
    (h : St w0 w (sesB b l lw f out * (X * F))) (hM : ∀ w', St w0 w' F → w'.cell? ⟨2, 0, none⟩ = some (.int .i64 mx))
    (h0 : 0 < s.size) (hs0 : s[0]'h0 ≠ 35) (hs : s.size ≤ 200) (ht : (⟨(Lib.trimB s.data.toList 32).toArray⟩ : ByteArray).toList.isEmpty = false)
    (hc : Lib.countB s ⟨#[32]⟩ = 4) (hsp : Lib.splitB ⟨#[32]⟩ 0 4 s = [wd, a1, a2, a3, a4])
    (hFl : ∀ M, FlagM b M → M wd = none) (hOr : ∀ M, OrdM M → M wd = some (ordV 4 fm))
    (hent : ∀ args w, (callFunc fm args).run Tryz.prog w = .ok (.enter fm args) w)
    (hn1 : ∀ {w0 w : World} {F : SProp}, St w0 w F → Calls Tryz.prog 15 #[.string a1] w fun e w' => e = .returned (.tuple #[.int .i64 v1, .bool true]) ∧ St w0 w' F)
    (hn2 : ∀ {w0 w : World} {F : SProp}, St w0 w F → Calls Tryz.prog 15 #[.string a2] w fun e w' => e = .returned (.tuple #[.int .i64 v2, .bool true]) ∧ St w0 w' F)
    (hn3 : ∀ {w0 w : World} {F : SProp}, St w0 w F → Calls Tryz.prog 15 #[.string a3] w fun e w' => e = .returned (.tuple #[.int .i64 v3, .bool true]) ∧ St w0 w' F)
    (hn4 : ∀ {w0 w : World} {F : SProp}, St w0 w F → Calls Tryz.prog 15 #[.string a4] w fun e w' => e = .returned (.tuple #[.int .i64 v4, .bool true]) ∧ St w0 w' F)
    (hcall : ∀ (w : World) (v : Value) (F' : SProp), St w0 w (sesB b l lw f out * (X * (own 3 1 v 4 [.int .i64 v1, .int .i64 v2, .int .i64 v3, .int .i64 v4] * F'))) → Calls Tryz.prog fm #[.pointer (some ⟨b, 0, none⟩), v] w fun e w' => e = .returned (.tuple #[.string m, .int .i64 k]) ∧ ∃ l' S, R l' S ∧ St w0 w' (sesB b l' lw f out * (S * F')))
    (htell : ∀ (w : World) (l' : Value) (F' : SProp), St w0 w (sesB b l' lw f out * F') → Calls Tryz.prog 13 #[.pointer (some ⟨b, 0, none⟩), .int .i64 k, .string m] w fun e w' => (∃ v, e = .returned v) ∧ St w0 w' (sesB b l' lw f out' * F')) :
    Calls Tryz.prog 7 #[.pointer (some ⟨b, 0, none⟩), .string s] w fun e w' => e = .returned (.tuple #[]) ∧ ∃ l' S, R l' S ∧ St w0 w' (sesB b l' lw f out' * (S * F)) := by
  have hT := Tryz.strings_Trim_one s 32 (by decide) w (by omega)
  have HT := Lib.hid hT; clear hT
  have H := Lib.hid h; clear h
  have HC := Lib.hid hcall; have HTL := Lib.hid htell; have HFl := Lib.hid hFl; have HOr := Lib.hid hOr; have HE := Lib.hid hent; have HMx := Lib.hid hM; have HS := Lib.hid hsp
  clear hcall htell hFl hOr hent hM hsp
  have hi : (0 : Int) < (s.size : Int) := by omega
  have hz : ((((s[0]'h0).toNat : Nat) : Int) == 35) = false := by
    refine beq_eq_false_iff_ne.2 fun e => hs0 (UInt8.toNat_inj.1 ?_)
    have : (s[0]'h0).toNat = 35 := by omega
    rw [this]; rfl
  go_enter Tryz.func7, Tryz.ntmps7
  go_wp2_with (go_at_call 10; apply stop)
  refine on (HT.out.mono ?_)
  rintro e w1 ⟨rfl, hw⟩
  have h1 : St w0 w1 (sesB b l lw f out * (X * F)) := by
    rcases hw with rfl | rfl
    · exact H.out
    · exact H.out.drew
  clear hw H HT
  obtain ⟨t, htt⟩ : ∃ t : ByteArray, ⟨(Lib.trimB s.data.toList 32).toArray⟩ = t := ⟨_, rfl⟩
  rw [htt] at ht
  rw [htt]
  clear htt
  have hp := Tryz.strings_Split s ⟨#[32]⟩ mx w1 (by omega) (HMx.out _ h1.right.right) (by decide)
  rw [hc, HS.out] at hp
  obtain ⟨q, hq⟩ : ∃ q, w1.heap.size = q := ⟨_, rfl⟩
  rw [hq] at hp
  have h2 := h1.alloc (.cells #[.string wd, .string a1, .string a2, .string a3, .string a4] 9)
  rw [hq] at h2
  have HP := Lib.hid hp
  have H2 := Lib.hid h2
  clear hp h1 h2 hq
  go_upto_region 2 with (go_at_call 11; refine HP.out.mono ?_; rintro e W1 ⟨rfl, rfl⟩)
  have h2 := H2.out
  clear H2 HP
  generalize w1.alloc (.cells #[.string wd, .string a1, .string a2, .string a3, .string a4] 9) = W1 at *
  obtain ⟨B, hB⟩ : ∃ B, B = blk q (.cells #[.string wd, .string a1, .string a2, .string a3, .string a4] 9) * (sesB b l lw f out * (X * F)) := ⟨_, rfl⟩
  have h3 : St w0 W1.drew B := by rw [hB]; exact h2.drew
  have hQ : ∀ (w' : World) (G : SProp), St w0 w' (G * B) → w'.cell? ⟨q, 0, none⟩ = some (.string wd) ∧ w'.cell? ⟨q, 1, none⟩ = some (.string a1) ∧ w'.cell? ⟨q, 2, none⟩ = some (.string a2) ∧ w'.cell? ⟨q, 3, none⟩ = some (.string a3) ∧ w'.cell? ⟨q, 4, none⟩ = some (.string a4) := fun w' G h' => by
    rw [hB] at h'
    have h2 := h'.right
    exact ⟨h2.cell 0 rfl, h2.cell 1 rfl, h2.cell 2 rfl, h2.cell 3 rfl, h2.cell 4 rfl⟩
  have HB := Lib.hid hB; have HQ := Lib.hid hQ
  clear h2 hB hQ
  refine wp_region_noPanic ?_
  refine region_till (S := fun w' : World => ∃ G, St w0 w' (G * B)) (k := 7) (by kernel_rfl) ?_
  have hS : (fun w' : World => ∃ G, St w0 w' (G * B)) W1.drew := ⟨emp, h3.perm (emp_star _).symm⟩
  refine till_take0 (i := 0) (oi := ?_) (v := ?_) ?_ (by kernel_rfl) (by kernel_rfl) (by kernel_rfl) (by decide) (fun _ _ _ h => h.elim) (by assumption) (.inl ⟨?_, fun w => ?_⟩) ?_
  rotate_left 2
  · (simp only [List.getElem?_toArray, List.getElem?_cons_succ, List.getElem?_cons_zero]; rfl)
  · rfl
  · (go_simp; try with_reducible rfl)
  simp only [Act.put, List.setIfInBounds_toArray, List.set_cons_zero, List.set_cons_succ]
  refine till_take0 (i := 1) (oi := ?_) (v := ?_) ?_ (by kernel_rfl) (by kernel_rfl) (by kernel_rfl) (by decide) (fun _ _ _ h => h.elim) (by assumption) (.inl ⟨?_, fun w => ?_⟩) ?_
  rotate_left 2
  · (simp only [List.getElem?_toArray, List.getElem?_cons_succ, List.getElem?_cons_zero]; rfl)
  · rfl
  · (go_simp; try with_reducible rfl)
  simp only [Act.put, List.setIfInBounds_toArray, List.set_cons_zero, List.set_cons_succ]
  refine till_take0 (i := 2) (oi := ?_) (v := ?_) ?_ (by kernel_rfl) (by kernel_rfl) (by kernel_rfl) (by decide) (fun _ _ _ h => h.elim) (by assumption) (.inl ⟨?_, fun w => ?_⟩) ?_
  rotate_left 2
  · (simp only [List.getElem?_toArray, List.getElem?_cons_succ, List.getElem?_cons_zero]; rfl)
  · rfl
  · (go_simp; try with_reducible rfl)
  simp only [Act.put, List.setIfInBounds_toArray, List.set_cons_zero, List.set_cons_succ]
  refine till_take0 (i := 4) (oi := ?_) (v := ?_) ?_ (by kernel_rfl) (by kernel_rfl) (by kernel_rfl) (by decide) (fun _ _ _ h => h.elim) (by assumption) (.inl ⟨?_, fun w => ?_⟩) ?_
  rotate_left 2
  · (simp only [List.getElem?_toArray, List.getElem?_cons_succ, List.getElem?_cons_zero]; rfl)
  · rfl
  · (go_simp; try with_reducible rfl)
  simp only [Act.put, List.setIfInBounds_toArray, List.set_cons_zero, List.set_cons_succ]
  refine till_take0 (i := 5) (oi := ?_) (v := ?_) ?_ (by kernel_rfl) (by kernel_rfl) (by kernel_rfl) (by decide) (fun _ _ _ h => h.elim) (by assumption) (.inl ⟨?_, fun w => ?_⟩) ?_
  rotate_left 2
  · (simp only [List.getElem?_toArray, List.getElem?_cons_succ, List.getElem?_cons_zero]; rfl)
  · rfl
  · (go_simp; try with_reducible rfl)
  simp only [Act.put, List.setIfInBounds_toArray, List.set_cons_zero, List.set_cons_succ]
  refine till_take (i := 6) (oi := ?_) (v := ?_) ?_ (by kernel_rfl) (by kernel_rfl) (by kernel_rfl) (by kernel_rfl) (by kernel_rfl) (fun _ _ _ h => h.elim) (by assumption) (.inl ⟨?_, fun w9 hSw => ?_⟩) ?_
  rotate_left 2
  · (simp only [List.getElem?_toArray, List.getElem?_cons_succ, List.getElem?_cons_zero]; rfl)
  · rfl
  · (obtain ⟨G9, hG9⟩ := hSw; obtain ⟨f0, f1, f2, f3, f4⟩ := HQ.out _ _ hG9; clear hG9; go_simp; try with_reducible rfl)
  simp only [Act.put, List.setIfInBounds_toArray, List.set_cons_zero, List.set_cons_succ]
  refine till_one (i := 3) (by kernel_rfl) ?_
  refine wpOp_callv (args := #[.pointer (some ⟨b, 1, none⟩)]) rfl rfl (.func 12) #[.tmp 29] _ rfl rfl (by kernel_rfl) (fun args w => enters_of Tryz.func12 (by kernel_rfl) rfl args w) ((flags_any h3 b).mono ?_)
  rintro e W2 ⟨mf, hmf⟩
  obtain ⟨M, rfl, hFM, h4⟩ : ∃ M, e = .returned (.map (some mf)) ∧ FlagM b M ∧ St w0 W2 (mapK mf M * B) := by
    obtain ⟨M, e1, e2, e3⟩ := hmf
    exact ⟨M, e1, e2, e3⟩
  refine ⟨_, rfl, fun _ => ⟨_, h4⟩, ?_⟩
  simp only [Act.put, List.setIfInBounds_toArray, List.set_cons_zero, List.set_cons_succ, List.getElem_toArray, List.getElem_cons_succ, List.getElem_cons_zero]
  have hS2 : (fun w' : World => ∃ G, St w0 w' (G * B)) W2 := ⟨_, h4⟩
  have hlk := HFl.out M hFM
  refine till_one (i := 7) (by kernel_rfl) ?_
  refine wpOp_runTo rfl rfl (v := .tuple #[.pointer none, .bool false]) (w' := W2) ((exec_lookupK (z := .pointer none) (.tmp 30) (.tmp 33) rfl Tryz.underlying51 Tryz.underlying9 h4 rfl rfl (by kernel_rfl)).trans (by rw [hlk]; rfl)) ⟨fun _ => hS2, ?_⟩
  simp only [Act.put, List.setIfInBounds_toArray, List.set_cons_zero, List.set_cons_succ, List.getElem_toArray, List.getElem_cons_succ, List.getElem_cons_zero]
  refine till_take0 (i := 8) (oi := ?_) (v := ?_) ?_ (by kernel_rfl) (by kernel_rfl) (by kernel_rfl) (by decide) (fun _ _ _ h => h.elim) (by assumption) (.inl ⟨?_, fun w => ?_⟩) ?_
  rotate_left 2
  · (simp only [List.getElem?_toArray, List.getElem?_cons_succ, List.getElem?_cons_zero]; rfl)
  · rfl
  · (go_simp; try with_reducible rfl)
  simp only [Act.put, List.setIfInBounds_toArray, List.set_cons_zero, List.set_cons_succ]
  refine till_take0 (i := 9) (oi := ?_) (v := ?_) ?_ (by kernel_rfl) (by kernel_rfl) (by kernel_rfl) (by decide) (fun _ _ _ h => h.elim) (by assumption) (.inl ⟨?_, fun w => ?_⟩) ?_
  rotate_left 2
  · (simp only [List.getElem?_toArray, List.getElem?_cons_succ, List.getElem?_cons_zero]; rfl)
  · rfl
  · (go_simp; try with_reducible rfl)
  simp only [Act.put, List.setIfInBounds_toArray, List.set_cons_zero, List.set_cons_succ]
  refine till_take0 (i := 10) (oi := ?_) (v := ?_) ?_ (by kernel_rfl) (by kernel_rfl) (by kernel_rfl) (by decide) (fun _ _ _ h => h.elim) (by assumption) (.inl ⟨?_, fun w => ?_⟩) ?_
  rotate_left 2
  · (simp only [List.getElem?_toArray, List.getElem?_cons_succ, List.getElem?_cons_zero]; rfl)
  · rfl
  · (go_simp; try with_reducible rfl)
  simp only [Act.put, List.setIfInBounds_toArray, List.set_cons_zero, List.set_cons_succ]
  refine till_take0 (i := 11) (oi := ?_) (v := ?_) ?_ (by kernel_rfl) (by kernel_rfl) (by kernel_rfl) (by decide) (fun _ _ _ h => h.elim) (by assumption) (.inl ⟨?_, fun w => ?_⟩) ?_
  rotate_left 2
  · (simp only [List.getElem?_toArray, List.getElem?_cons_succ, List.getElem?_cons_zero]; rfl)
  · rfl
  · (go_simp; try with_reducible rfl)
  simp only [Act.put, List.setIfInBounds_toArray, List.set_cons_zero, List.set_cons_succ]
  refine till_take0 (i := 12) (oi := ?_) (v := ?_) ?_ (by kernel_rfl) (by kernel_rfl) (by kernel_rfl) (by decide) (fun _ _ _ h => h.elim) (by assumption) (.inl ⟨?_, fun w => ?_⟩) ?_
  rotate_left 2
  · (simp only [List.getElem?_toArray, List.getElem?_cons_succ, List.getElem?_cons_zero]; rfl)
  · rfl
  · (go_simp; try with_reducible rfl)
  simp only [Act.put, List.setIfInBounds_toArray, List.set_cons_zero, List.set_cons_succ]
  refine ⟨by kernel_rfl, NoPanic.normal ?_⟩
  clear hS hS2 h3
  obtain ⟨f0, f1, f2, f3, f4⟩ := HQ.out _ _ h4
  go_upto_region 6 with (fail)
  clear f0 f1 f2 f3 f4
  have h5 := h4.right.drew
  clear h4
  refine wp_region_noPanic ?_
  refine region_till (S := fun w' : World => ∃ G, St w0 w' (G * B)) (k := 4) (by kernel_rfl) ?_
  have hS : (fun w' : World => ∃ G, St w0 w' (G * B)) W2.drew := ⟨emp, h5.perm (emp_star _).symm⟩
  refine till_take0 (i := 1) (oi := ?_) (v := ?_) ?_ (by kernel_rfl) (by kernel_rfl) (by kernel_rfl) (by decide) (fun _ _ _ h => h.elim) (by assumption) (.inl ⟨?_, fun w => ?_⟩) ?_
  rotate_left 2
  · (simp only [List.getElem?_toArray, List.getElem?_cons_succ, List.getElem?_cons_zero]; rfl)
  · rfl
  · (go_simp; try with_reducible rfl)
  simp only [Act.put, List.setIfInBounds_toArray, List.set_cons_zero, List.set_cons_succ]
  refine till_take0 (i := 2) (oi := ?_) (v := ?_) ?_ (by kernel_rfl) (by kernel_rfl) (by kernel_rfl) (by decide) (fun _ _ _ h => h.elim) (by assumption) (.inl ⟨?_, fun w => ?_⟩) ?_
  rotate_left 2
  · (simp only [List.getElem?_toArray, List.getElem?_cons_succ, List.getElem?_cons_zero]; rfl)
  · rfl
  · (go_simp; try with_reducible rfl)
  simp only [Act.put, List.setIfInBounds_toArray, List.set_cons_zero, List.set_cons_succ]
  refine till_take (i := 3) (oi := ?_) (v := ?_) ?_ (by kernel_rfl) (by kernel_rfl) (by kernel_rfl) (by kernel_rfl) (by kernel_rfl) (fun _ _ _ h => h.elim) (by assumption) (.inl ⟨?_, fun w9 hSw => ?_⟩) ?_
  rotate_left 2
  · (simp only [List.getElem?_toArray, List.getElem?_cons_succ, List.getElem?_cons_zero]; rfl)
  · rfl
  · (obtain ⟨G9, hG9⟩ := hSw; obtain ⟨f0, f1, f2, f3, f4⟩ := HQ.out _ _ hG9; clear hG9; go_simp; try with_reducible rfl)
  simp only [Act.put, List.setIfInBounds_toArray, List.set_cons_zero, List.set_cons_succ]
  have hlo := Lib.hid (fun M (hM : OrdM M) => HOr.out M hM)
  refine till_phaseG (S := fun w' : World => ∃ G, St w0 w' (G * B)) (Inv6 w0 B 4 fm) [0, 4, 5, 6, 7, 8, 9] 125 (fun σ w' h => Exists.intro (pMo (σ 0) * pAl 4 fm (σ 9).isSome (σ 8)) (h.st.perm (star_assoc _ _ _).symm)) (by kernel_rfl) (by rfl) ?_ 1 (by rfl) ?_ ?_
  · intro i hi σ a W9 K hσ hw hsz9 hev hval hI hK
    obtain ⟨hst, h98, k4, k5, k6, k7⟩ := hI
    have e72 : a.eval (.tmp 72) = .string wd := hev 72 (by decide)
    clear hev
    simp only [List.mem_cons, List.not_mem_nil, or_false] at hi
    rcases hi with rfl | rfl | rfl | rfl | rfl | rfl | rfl
    · rw [hσ] at hst
      have hst : St w0 W9 (emp * (pAl 4 fm (σ 9).isSome (σ 8) * B)) := hst
      rw [emp_star] at hst
      refine wpOp_callv (args := #[]) rfl rfl (.func 14) #[] _ rfl rfl (by kernel_rfl) (fun args w => enters_of Tryz.func14 (by kernel_rfl) rfl args w) ((orders_any hst).mono ?_)
      rintro e W3 ⟨mo, hmo⟩
      obtain ⟨M2, rfl, hOM, h6⟩ : ∃ M, e = .returned (.map (some mo)) ∧ OrdM M ∧ St w0 W3 (mapK mo M * (pAl 4 fm (σ 9).isSome (σ 8) * B)) := by
        obtain ⟨M, e1, e2, e3⟩ := hmo
        exact ⟨M, e1, e2, e3⟩
      refine ⟨_, rfl, hK _ _ ⟨?_, h98, k4, k5, k6, k7⟩⟩
      exact St.mk_ex_l (mo, M2) ((St.mk_pure_l ⟨rfl, hOM⟩ h6).perm (star_assoc _ _ _).symm)
    · obtain ⟨v0, hv0⟩ := Option.isSome_iff_exists.1 (hw 0 (by decide) (by kernel_rfl))
      have e69 : a.eval (.tmp 69) = v0 := hval 0 v0 hv0 (by kernel_rfl)
      have hst2 := hst
      rw [hv0] at hst2
      obtain ⟨⟨mo, M2⟩, hs2⟩ := St.ex_l hst2
      obtain ⟨⟨hv, hOM⟩, h6⟩ := (hs2.perm (star_assoc _ _ _)).pure_l
      have h6 : St w0 W9 (mapK mo M2 * (pAl 4 fm (σ 9).isSome (σ 8) * B)) := h6
      have hlk := hlo.out M2 hOM
      refine wpOp_runTo rfl rfl (v := .tuple #[ordV 4 fm, .bool true]) (w' := W9) ((exec_lookupK (z := .agg #[.int .i64 0, .nilFunc]) (.tmp 69) (.tmp 72) rfl Tryz.underlying59 Tryz.underlying9 h6 (e69.trans hv) e72 (by kernel_rfl)).trans (by rw [hlk]; rfl)) (hK _ _ ⟨hst, h98, ?_, k5, k6, k7⟩)
      intro v hv9
      exact (Option.some.inj hv9).symm
    · obtain ⟨v4, hv4⟩ := Option.isSome_iff_exists.1 (hw 4 (by decide) (by kernel_rfl))
      have e73 : a.eval (.tmp 73) = .tuple #[ordV 4 fm, .bool true] := (hval 4 v4 hv4 (by kernel_rfl)).trans (k4 _ hv4)
      refine wpOp_runTo rfl rfl (v := .tuple #[ordV 4 fm, .bool true]) (w' := W9) (exec_move (.tmp 73) rfl e73) (hK _ _ ⟨hst, h98, k4, ?_, k6, k7⟩)
      intro v hv9
      exact (Option.some.inj hv9).symm
    · obtain ⟨v5, hv5⟩ := Option.isSome_iff_exists.1 (hw 5 (by decide) (by kernel_rfl))
      have e68 : a.eval (.tmp 68) = .tuple #[ordV 4 fm, .bool true] := (hval 5 v5 hv5 (by kernel_rfl)).trans (k5 _ hv5)
      refine wpOp_runTo rfl rfl (v := ordV 4 fm) (w' := W9) (exec_extract (.tmp 68) 0 rfl e68 rfl) (hK _ _ ⟨hst, h98, k4, k5, ?_, k7⟩)
      intro v hv9
      exact (Option.some.inj hv9).symm
    · obtain ⟨v5, hv5⟩ := Option.isSome_iff_exists.1 (hw 5 (by decide) (by kernel_rfl))
      have e68 : a.eval (.tmp 68) = .tuple #[ordV 4 fm, .bool true] := (hval 5 v5 hv5 (by kernel_rfl)).trans (k5 _ hv5)
      refine wpOp_runTo rfl rfl (v := .bool true) (w' := W9) (exec_extract (.tmp 68) 1 rfl e68 rfl) (hK _ _ ⟨hst, h98, k4, k5, k6, ?_⟩)
      intro v hv9
      exact (Option.some.inj hv9).symm
    · have h9 := h98 hσ
      rw [hσ] at hst
      have hst : St w0 W9 (pMo (σ 0) * (emp * B)) := hst
      rw [emp_star] at hst
      have ha := (hst.alloc (.cells #[.int .i64 0, .nilFunc] 57)).perm (star_left_comm _ _ _)
      refine wpOp_runTo rfl rfl (v := .pointer (some ⟨W9.heap.size, 0, none⟩)) (w' := W9.alloc (.cells #[.int .i64 0, .nilFunc] 57)) (by kernel_rfl) (hK _ _ ⟨?_, fun h => nn h, k4, k5, k6, k7⟩)
      show St w0 _ (pMo (σ 0) * (pAl 4 fm (σ 9).isSome (some _) * B))
      rw [h9]
      refine St.perm ?_ (star_left_comm _ _ _)
      exact St.mk_ex_l W9.heap.size ((St.mk_pure_l rfl (ha.perm (star_left_comm _ _ _))).perm (star_assoc _ _ _).symm)
    · obtain ⟨v6, hv6⟩ := Option.isSome_iff_exists.1 (hw 6 (by decide) (by kernel_rfl))
      obtain ⟨v8, hv8⟩ := Option.isSome_iff_exists.1 (hw 8 (by decide) (by kernel_rfl))
      have e74 : a.eval (.tmp 74) = ordV 4 fm := (hval 6 v6 hv6 (by kernel_rfl)).trans (k6 _ hv6)
      have e7 : a.eval (.tmp 7) = v8 := hval 8 v8 hv8 (by kernel_rfl)
      rw [hσ, hv8] at hst
      obtain ⟨x, hx⟩ := St.ex_l (hst.perm (star_left_comm _ _ _))
      obtain ⟨hv, h6⟩ := (hx.perm (star_assoc _ _ _)).pure_l
      have h6 : St w0 W9 (blk x (.cells #[.int .i64 0, .nilFunc] 57) * (pMo (σ 0) * B)) := h6
      refine wpOp_store (cells := #[.int .i64 4, .func (.func fm) #[] #[]]) rfl rfl 57 (.tmp 7) (.tmp 74) rfl h6 (e7.trans hv) e74 (by show _ = some 2; kernel_rfl) rfl rfl ?_
      have hk := hK undef (W9.setRow x #[.int .i64 4, .func (.func fm) #[] #[]]) ⟨?_, fun h => nn (hv8.symm.trans h), k4, k5, k6, k7⟩
      · rw [put_big hsz9 (by kernel_rfl)] at hk
        exact hk
      · show St w0 _ (pMo (σ 0) * (pAl 4 fm true (σ 8) * B))
        rw [hv8]
        refine St.perm ?_ (star_left_comm _ _ _)
        exact St.mk_ex_l x ((St.mk_pure_l hv (h6.setRow _)).perm (star_assoc _ _ _).symm)
  · exact ⟨by show St w0 W2.drew (emp * (emp * B)); rw [emp_star, emp_star]; exact h5, fun _ => rfl, fun v hv => (by cases hv), fun v hv => (by cases hv), fun v hv => (by cases hv), fun v hv => (by cases hv)⟩
  intro vs W3 hI
  obtain ⟨hst, -, k4, k5, k6, k7⟩ := hI
  have hst : St w0 W3 (pMo (some (vs 0)) * (pAl 4 fm true (some (vs 8)) * B)) := hst
  have e4 : vs 4 = .tuple #[ordV 4 fm, .bool true] := k4 _ rfl
  have e5 : vs 5 = .tuple #[ordV 4 fm, .bool true] := k5 _ rfl
  have e6 : vs 6 = ordV 4 fm := k6 _ rfl
  have e7 : vs 7 = .bool true := k7 _ rfl
  obtain ⟨x, hx⟩ := St.ex_l (hst.perm (star_left_comm _ _ _))
  obtain ⟨e8, h6⟩ := (hx.perm (star_assoc _ _ _)).pure_l
  have h6 : St w0 W3 (blk x (.cells #[.int .i64 4, .func (.func fm) #[] #[]] 57) * (pMo (some (vs 0)) * B)) := h6
  have h8 := h6.perm (show _ = pMo (some (vs 0)) * (blk x (.cells #[.int .i64 4, .func (.func fm) #[] #[]] 57) * B) by ac_rfl)
  have h8 := h8.right
  clear hx hst k4 k5 k6 k7 h6 hlo hS h5
  change anyTill _ _ _ _ _ _ _ _ (putsR _ [(69, vs 0), (73, vs 4), (68, vs 5), (74, vs 6), (75, vs 7), (7, vs 8), (100009, vs 9)]) _
  rw [e4, e5, e6, e7, e8]
  obtain ⟨z0, hz0⟩ : ∃ z, vs 0 = z := ⟨_, rfl⟩
  rw [hz0]
  clear e4 e5 e6 e7 e8 hz0
  simp only [putsR, Act.put, List.setIfInBounds_toArray, List.set_cons_zero, List.set_cons_succ]
  refine till_one (i := 10) (by kernel_rfl) ?_
  refine wpOp_runTo rfl rfl (v := .bool true) (w' := W3) (by kernel_rfl) ⟨fun _ => ⟨_, h8⟩, ?_⟩
  simp only [Act.put, List.setIfInBounds_toArray, List.set_cons_zero, List.set_cons_succ, List.getElem_toArray, List.getElem_cons_succ, List.getElem_cons_zero]
  refine ⟨by kernel_rfl, NoPanic.normal ?_⟩
  obtain ⟨C, hC⟩ : ∃ C, C = blk x (.cells #[.int .i64 4, .func (.func fm) #[] #[]] 57) * B := ⟨_, rfl⟩
  rw [← hC] at h8
  have hV : ∀ (w' : World) (G : SProp), St w0 w' (G * C) → (w'.cell? ⟨q, 0, none⟩ = some (.string wd) ∧ w'.cell? ⟨q, 1, none⟩ = some (.string a1) ∧ w'.cell? ⟨q, 2, none⟩ = some (.string a2) ∧ w'.cell? ⟨q, 3, none⟩ = some (.string a3) ∧ w'.cell? ⟨q, 4, none⟩ = some (.string a4)) ∧ w'.cell? ⟨x, 0, none⟩ = some (.int .i64 4) ∧ w'.cell? ⟨x, 1, none⟩ = some (.func (.func fm) #[] #[]) := fun w' G h' => by
    rw [hC] at h'
    exact ⟨HQ.out w' (G * blk x (.cells #[.int .i64 4, .func (.func fm) #[] #[]] 57)) (h'.perm (star_assoc _ _ _).symm), h'.right.cell 0 rfl, h'.right.cell 1 rfl⟩
  have hU : ∀ (w' : World) (v : Value), St w0 w' (own 3 1 v 4 [.int .i64 v1, .int .i64 v2, .int .i64 v3, .int .i64 v4] * C) → St w0 w' (sesB b l lw f out * (X * (own 3 1 v 4 [.int .i64 v1, .int .i64 v2, .int .i64 v3, .int .i64 v4] * (blk x (.cells #[.int .i64 4, .func (.func fm) #[] #[]] 57) * (blk q (.cells #[.string wd, .string a1, .string a2, .string a3, .string a4] 9) * F))))) := fun w' v h' => by
    rw [hC, HB.out] at h'
    exact h'.perm (by ac_rfl)
  have HV := Lib.hid hV; have HU := Lib.hid hU
  have H8 := Lib.hid (St.own_nil 3 1 h8)
  clear hV hU hC h8
  have T := elemInt
  obtain ⟨⟨f0, f1, f2, f3, f4⟩, x0, x1⟩ := HV.out _ _ H8.out
  go_wp2
  go_loopw [79, 8, 9] (fun vi vo vl wr => ∃ k : Nat, k ≤ 4 ∧ vi = .int .i64 k ∧ vo = .bool true ∧ St w0 wr (own 3 1 vl k (([.int .i64 v1, .int .i64 v2, .int .i64 v3, .int .i64 v4] : List Value).take k) * C)) (fun vi _ _ _ => 4 - (intOf vi).toNat)
  case atStart => exact ⟨0, by omega, rfl, rfl, H8.out⟩
  clear H8 f0 f1 f2 f3 f4 x0 x1
  case round =>
    obtain ⟨k, hk, rfl, rfl, h2⟩ := hrel
    obtain ⟨⟨f0, f1, f2, f3, f4⟩, x0, x1⟩ := HV.out _ _ h2
    obtain ⟨al, cl, rfl⟩ := h2.reads.sub
    have H2 := Lib.hid h2; clear h2
    rcases (by omega : k = 0 ∨ k = 1 ∨ k = 2 ∨ k = 3 ∨ k = 4) with rfl | rfl | rfl | rfl | rfl
    · go_wp2_with (first
        | (go_at_call 15; refine (hn1 H2.out).mono ?_; rintro e w1 ⟨rfl, h3⟩; have H3 := Lib.hid h3; clear h3 H2)
        | (at_builtin; apply stop))
      refine on (wpList_append_sep T rfl _ _ rfl rfl (H3.out.drop_alloc (.cells #[.int .i64 v1] 3)) rfl ((H3.out.lit #[.int .i64 v1] 3 1 rfl (by decide)).reads) (by intro u hu; simp at hu; subst hu; rfl) (by decide) (by decide) ?_)
      intro v' w2 h4 _
      have H4 := Lib.hid (show St w0 w2 (own 3 1 v' 1 (([.int .i64 v1, .int .i64 v2, .int .i64 v3, .int .i64 v4] : List Value).take 1) * C) from h4)
      clear h4 H3 f0 f1 f2 f3 f4 x0 x1
      go_wp2
      exact ⟨⟨1, by omega, by go_num, rfl, H4.out⟩, by simp [intOf]⟩
    · go_wp2_with (first
        | (go_at_call 15; refine (hn2 H2.out).mono ?_; rintro e w1 ⟨rfl, h3⟩; have H3 := Lib.hid h3; clear h3 H2)
        | (at_builtin; apply stop))
      refine on (wpList_append_sep T rfl _ _ rfl rfl (H3.out.drop_alloc (.cells #[.int .i64 v2] 3)) rfl ((H3.out.lit #[.int .i64 v2] 3 1 rfl (by decide)).reads) (by intro u hu; simp at hu; subst hu; rfl) (by decide) (by decide) ?_)
      intro v' w2 h4 _
      have H4 := Lib.hid (show St w0 w2 (own 3 1 v' 2 (([.int .i64 v1, .int .i64 v2, .int .i64 v3, .int .i64 v4] : List Value).take 2) * C) from h4)
      clear h4 H3 f0 f1 f2 f3 f4 x0 x1
      go_wp2
      exact ⟨⟨2, by omega, by go_num, rfl, H4.out⟩, by simp [intOf]⟩
    · go_wp2_with (first
        | (go_at_call 15; refine (hn3 H2.out).mono ?_; rintro e w1 ⟨rfl, h3⟩; have H3 := Lib.hid h3; clear h3 H2)
        | (at_builtin; apply stop))
      refine on (wpList_append_sep T rfl _ _ rfl rfl (H3.out.drop_alloc (.cells #[.int .i64 v3] 3)) rfl ((H3.out.lit #[.int .i64 v3] 3 1 rfl (by decide)).reads) (by intro u hu; simp at hu; subst hu; rfl) (by decide) (by decide) ?_)
      intro v' w2 h4 _
      have H4 := Lib.hid (show St w0 w2 (own 3 1 v' 3 (([.int .i64 v1, .int .i64 v2, .int .i64 v3, .int .i64 v4] : List Value).take 3) * C) from h4)
      clear h4 H3 f0 f1 f2 f3 f4 x0 x1
      go_wp2
      exact ⟨⟨3, by omega, by go_num, rfl, H4.out⟩, by simp [intOf]⟩
    · go_wp2_with (first
        | (go_at_call 15; refine (hn4 H2.out).mono ?_; rintro e w1 ⟨rfl, h3⟩; have H3 := Lib.hid h3; clear h3 H2)
        | (at_builtin; apply stop))
      refine on (wpList_append_sep T rfl _ _ rfl rfl (H3.out.drop_alloc (.cells #[.int .i64 v4] 3)) rfl ((H3.out.lit #[.int .i64 v4] 3 1 rfl (by decide)).reads) (by intro u hu; simp at hu; subst hu; rfl) (by decide) (by decide) ?_)
      intro v' w2 h4 _
      have H4 := Lib.hid (show St w0 w2 (own 3 1 v' 4 (([.int .i64 v1, .int .i64 v2, .int .i64 v3, .int .i64 v4] : List Value).take 4) * C) from h4)
      clear h4 H3 f0 f1 f2 f3 f4 x0 x1
      go_wp2
      exact ⟨⟨4, by omega, by go_num, rfl, H4.out⟩, by simp [intOf]⟩
    · have H9 := Lib.hid (HC.out _ _ _ (HU.out _ _ H2.out))
      clear H2
      have hE := HE.out
      go_wp2_with fail
      refine H9.out.mono ?_
      rintro e w2 ⟨rfl, l2, S2, hR2, h5⟩
      have HT5 := Lib.hid (HTL.out w2 l2 _ h5)
      clear H9 h5 HC HTL HFl HOr HMx HQ HV HU HB f0 f1 f2 f3 f4 x0 x1 hE
      go_wp2_with (go_at_call 13; refine HT5.out.mono ?_; rintro e w3 ⟨⟨v9, rfl⟩, h6⟩; have H6 := Lib.hid h6; clear h6 HT5)
      go_end0
      exact ⟨rfl, l2, S2, hR2, (H6.out.perm (show _ = (blk x (.cells #[.int .i64 4, .func (.func fm) #[] #[]] 57) * blk q (.cells #[.string wd, .string a1, .string a2, .string a3, .string a4] 9)) * (sesB b l2 lw f out' * (S2 * F)) by ac_rfl)).right⟩
#print axioms line_ord4
end Go.Proofs.YtknelobnbpboiaaGreatDoor
