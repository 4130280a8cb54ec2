/-
  The document's state of reading (package mezzotintref08): numbers and words.
-/
import Derived.Test.YtddifndfppilkaaRefH
import Derived.Test.YtddifndfppilkaaInfM
import Derived.Test.YtddifndfppilkaaRef02
import Derived.Test.YtddifndfppilkaaHufQ
namespace Go.Proofs.Ytddifndfppilkaa
open Go.RowKit Go.Mz
set_option linter.unusedVariables false
set_option linter.unusedSimpArgs false
set_option maxRecDepth 100000

theorem bodyPost_ret3c {P : Program} {fn : Func} {R : Ending → World → Prop} {x u v : Nat} {ty e : TypeId} {cs : Array Value} {fr : Nat × Nat} {b : Nat} {a : Act} {w : World} {d : TypeDesc} (h : fn.results = #[.cell x ty, .tmp u, .tmp v])
    (hx : a.tmps.getD x undef = .pointer (some ⟨b, 0, none⟩)) (hg : w.heap[b]? = some (.cells cs e fr)) (hu : P.underlying ty = some d) (hd : (match d with | .struct _ | .array _ _ => true | _ => false) = true) (hi : (P.info? ty).map (·.size) = some cs.size)
    (hf : a.defers = []) (hR : R (.returned (.tuple #[.agg cs, a.tmps.getD u undef, a.tmps.getD v undef])) w) : bodyPost P fn R .ret a w := by
  refine ⟨hf, _, ?_, hR⟩
  have hx' : a.tmps[x]?.getD undef = .pointer (some ⟨b, 0, none⟩) := by simpa using hx
  simp [results, h, hx', asAddr, run_loadVar_row w b e ty cs fr d hg hu hd hi]
theorem bodyPost_ret2c {P : Program} {fn : Func} {R : Ending → World → Prop} {x u : Nat} {ty e : TypeId} {cs : Array Value} {fr : Nat × Nat} {b : Nat} {a : Act} {w : World} {d : TypeDesc} (h : fn.results = #[.cell x ty, .tmp u])
    (hx : a.tmps.getD x undef = .pointer (some ⟨b, 0, none⟩)) (hg : w.heap[b]? = some (.cells cs e fr)) (hu : P.underlying ty = some d) (hd : (match d with | .struct _ | .array _ _ => true | _ => false) = true) (hi : (P.info? ty).map (·.size) = some cs.size)
    (hf : a.defers = []) (hR : R (.returned (.tuple #[.agg cs, a.tmps.getD u undef])) w) : bodyPost P fn R .ret a w := by
  refine ⟨hf, _, ?_, hR⟩
  have hx' : a.tmps[x]?.getD undef = .pointer (some ⟨b, 0, none⟩) := by simpa using hx
  simp [results, h, hx', asAddr, run_loadVar_row w b e ty cs fr d hg hu hd hi]

/-- A state's cells. -/
def rstC (sb : ByteArray) (p : Nat) (vo : Value) (most : Int) : Array Value := #[.string sb, .int .i64 (p : Int), vo, .int .i64 most]
def rst0 : Array Value := #[.string ⟨#[]⟩, .int .i64 0, .slice none 0 0, .int .i64 0]

set_option maxHeartbeats 4000000 in
theorem rnum_any {w0 w : World} {F : SProp} (h : St w0 w F) {t : List Nat} (ht : Bit t) (hl : t.length ≤ 1000000000) {p : Nat} (hp : p ≤ t.length) (n : Nat) (hn : n ≤ 31) {ao : Option Addr} {no co : Nat} {most : Int} {sb : ByteArray} (hsb : sb = ⟨(tx t).toArray⟩) {j : Int} (hj : j = n) :
    Calls Try.prog 44 #[.agg (rstC sb p (.slice ao no co) most), .int .i64 j] w fun e w' =>
      e = .returned (.tuple #[.agg (rstC sb (if t.length < p + n then p else p + n) (.slice ao no co) most), .int .i64 (if t.length < p + n then 0 else vl t p n : Nat), .int .i64 (if t.length < p + n then 2 else 0 : Nat)]) ∧ St w0 w' F := by
  subst hj
  obtain ⟨x, y, z, hrd⟩ : ∃ x y z, rdI t true p (n : Nat) = (x, y, z) := ⟨_, _, _, rfl⟩
  have hxyz : y = (if t.length < p + n then p else p + n) ∧ x = (if t.length < p + n then 0 else vl t p n) ∧ z = (if t.length < p + n then 2 else 0) := by
    rw [rdI, if_neg (by omega), Int.toNat_natCast] at hrd
    split at hrd
    · rename_i hc
      rw [if_pos hc, if_pos hc, if_pos hc]; cases hrd; exact ⟨rfl, rfl, rfl⟩
    · rename_i hc
      rw [if_neg hc, if_neg hc, if_neg hc]; cases hrd; exact ⟨rfl, rfl, rfl⟩
  have hx32 : x < 2147483648 := by
    rw [hxyz.2.1]
    split
    · decide
    · have h1 := numV_lt true (fun i => t.getD (p + i) 0) (fun i => ht.getD _) n
      have h2 : 2 ^ n ≤ 2 ^ 31 := Nat.pow_le_pow_right (by decide) hn
      exact Nat.lt_of_lt_of_le h1 h2
  rw [← hxyz.1, ← hxyz.2.1, ← hxyz.2.2]
  have HRD := Lib.hid (fun w => ((rread_all ht p (n : Nat) true w hp hl rfl hsb).mono fun e w' h => (⟨by rw [hrd] at h; exact h.1, h.2.symm⟩ : e = .returned (.tuple #[.int .u32 (x : Int), .int .i64 (y : Int), .int .i64 (z : Int)]) ∧ w' = w)))
  have h1 := (h.alloc (.cells (rstC sb p (.slice ao no co) most) 85)).alloc (.cells rst0 85)
  have hsz : (w.alloc (.cells (rstC sb p (.slice ao no co) most) 85)).heap.size = w.heap.size + 1 := by
    show (w.heap.push _).size = _
    exact Array.size_push _
  rw [hsz] at h1
  unfold rstC rst0 at h1
  clear hrd hxyz h hsz hsb
  have H1 := Lib.hid h1; clear h1
  unfold rstC
  go_enter Try.func44, Try.ntmps44
  go_upto_region 1 with (fail)
  have h1 := H1.out
  clear H1
  generalize hb0 : w.heap.size = b0 at *
  generalize hb1 : b0 + 1 = b1 at *
  generalize hW : (w.alloc (.cells #[.string sb, .int .i64 (p : Int), (.slice ao no co), .int .i64 most] 85)).alloc (.cells #[.string ⟨#[]⟩, .int .i64 0, .slice none 0 0, .int .i64 0] 85) = W at *
  have hne : ¬ b0 = b1 := by omega
  have hne' : ¬ b1 = b0 := by omega
  clear hb0 hb1 hW
  have c0 := h1.right.cell 0 rfl
  have c1 := h1.right.cell 1 rfl
  have g1 := h1.right.free 1
  have h3 := (h1.perm (star_left_comm _ _ _)).set 1 (.int .i64 (y : Int))
  have HQ := Lib.hid (h3.perm (star_left_comm _ _ _)); clear h1 h3
  go_wp2_with fail
  refine (HRD.out _).mono ?_
  rintro e w2 ⟨rfl, rfl⟩
  go_upto_region 3 with (fail)
  clear c0 c1 g1
  generalize w2.setCell ⟨b0, 1, none⟩ (.int .i64 (y : Int)) = W2 at *
  have h4 : St w0 W2 (blk b1 (.cells #[.string ⟨#[]⟩, .int .i64 0, .slice none 0 0, .int .i64 0] 85) * (blk b0 (.cells #[.string sb, .int .i64 (y : Int), (.slice ao no co), .int .i64 most] 85) * F)) := HQ.out
  clear HQ
  have c0 := h4.right.cell 0 rfl
  have c1 := h4.right.cell 1 rfl
  have c2 := h4.right.cell 2 rfl
  have c3 := h4.right.cell 3 rfl
  have r0 := h4.cell 0 rfl
  have r1 := h4.cell 1 rfl
  have r2 := h4.cell 2 rfl
  have r3 := h4.cell 3 rfl
  have s0 := h4.free 0
  have s1 := h4.free 1
  have s2 := h4.free 2
  have s3 := h4.free 3
  have HF := Lib.hid ((((h4.set 0 (.string sb)).set 1 (.int .i64 (y : Int))).set 2 (.slice ao no co)).set 3 (.int .i64 most))
  clear h4
  have hxw : wrap64 (x : Int) = x := by unfold wrap64; omega
  go_wp2_with fail
  refine bodyPost_ret3c rfl rfl HF.out.at_ Try.underlying85 rfl (by show _ = some 4; kernel_rfl) rfl ?_
  exact ⟨rfl, HF.out.right.right⟩

set_option maxHeartbeats 4000000 in
theorem rnext_any {w0 w : World} {F : SProp} (h : St w0 w F) {t : List Nat} (ht : Bit t) (hl : t.length ≤ 1000000000) {p : Nat} (hp : p ≤ t.length) {W : List (List Nat)} (hb : ∀ v ∈ W, Bit v) (hW : W.length ≤ 100000) {vw : Value} (hv : Stb w0 F (fun w => Reads w 1 vw W.length (W.map txv))) {ao : Option Addr} {no co : Nat} {most : Int} {sb : ByteArray} (hsb : sb = ⟨(tx t).toArray⟩) :
    Calls Try.prog 77 #[.agg (rstC sb p (.slice ao no co) most), vw] w fun e w' => ∃ (z : Int) (x p' : Nat),
      e = .returned (.tuple #[.agg (rstC sb p' (.slice ao no co) most), .int .i64 z, .int .i64 (x : Nat)]) ∧ RdR (rdW W [] (t.drop p)) p z x p' ∧ St w0 w' F := by
  have h1 := (h.alloc (.cells (rstC sb p (.slice ao no co) most) 85)).alloc (.cells rst0 85)
  have hsz : (w.alloc (.cells (rstC sb p (.slice ao no co) most) 85)).heap.size = w.heap.size + 1 := by
    show (w.heap.push _).size = _
    exact Array.size_push _
  rw [hsz] at h1
  unfold rstC rst0 at h1
  obtain ⟨aw, cw, rfl⟩ := (hv w h).sub
  obtain ⟨z, x, y, hzx, hy, hval⟩ : ∃ (z : Int) (x y : Nat), RdR (rdW W [] (t.drop p)) p z x y ∧ True ∧ rdV (rdW W [] (t.drop p)) p = .tuple #[.int .i64 z, .int .i64 (y : Int), .int .i64 (x : Int)] := by
    rw [rdV]
    generalize rdW W [] (t.drop p) = r
    obtain ⟨k, r⟩ := r
    cases r with
    | inl i => exact ⟨i, 0, p + k, ⟨rfl, rfl, rfl⟩, trivial, rfl⟩
    | inr er => exact ⟨0, er, p + k, ⟨rfl, rfl⟩, trivial, rfl⟩
  have HRD := Lib.hid (fun w (h : St w0 w F) => (by have := hread_any (hv w h) hb ht p hp hl hW; rw [hval, ← hsb] at this; exact this : Calls Try.prog 95 #[.slice aw W.length cw, .string sb, .int .i64 p] w fun e w' => e = .returned (.tuple #[.int .i64 z, .int .i64 (y : Int), .int .i64 (x : Int)]) ∧ w' = w))
  have HZX := Lib.hid hzx
  clear hsz hsb hzx hy hval h hv
  have H1 := Lib.hid h1; clear h1
  unfold rstC
  go_enter Try.func77, Try.ntmps77
  go_upto_region 1 with (fail)
  have h1 := H1.out
  clear H1
  generalize hb0 : w.heap.size = b0 at *
  generalize hb1 : b0 + 1 = b1 at *
  generalize hW : (w.alloc (.cells #[.string sb, .int .i64 (p : Int), (.slice ao no co), .int .i64 most] 85)).alloc (.cells #[.string ⟨#[]⟩, .int .i64 0, .slice none 0 0, .int .i64 0] 85) = Ww at *
  have hne : ¬ b0 = b1 := by omega
  have hne' : ¬ b1 = b0 := by omega
  clear hb0 hb1 hW
  have c0 := h1.right.cell 0 rfl
  have c1 := h1.right.cell 1 rfl
  have g1 := h1.right.free 1
  have HRF := Lib.hid (HRD.out _ h1.right.right); clear HRD
  have h3 := (h1.perm (star_left_comm _ _ _)).set 1 (.int .i64 (y : Int))
  have HQ := Lib.hid (h3.perm (star_left_comm _ _ _)); clear h1 h3
  go_wp2_with fail
  refine HRF.out.mono ?_
  rintro e w2 ⟨rfl, rfl⟩
  go_upto_region 3 with (fail)
  clear HRF
  clear c0 c1 g1
  generalize w2.setCell ⟨b0, 1, none⟩ (.int .i64 (y : Int)) = W2 at *
  have h4 : St w0 W2 (blk b1 (.cells #[.string ⟨#[]⟩, .int .i64 0, .slice none 0 0, .int .i64 0] 85) * (blk b0 (.cells #[.string sb, .int .i64 (y : Int), (.slice ao no co), .int .i64 most] 85) * F)) := HQ.out
  clear HQ
  have c0 := h4.right.cell 0 rfl
  have c1 := h4.right.cell 1 rfl
  have c2 := h4.right.cell 2 rfl
  have c3 := h4.right.cell 3 rfl
  have r0 := h4.cell 0 rfl
  have r1 := h4.cell 1 rfl
  have r2 := h4.cell 2 rfl
  have r3 := h4.cell 3 rfl
  have s0 := h4.free 0
  have s1 := h4.free 1
  have s2 := h4.free 2
  have s3 := h4.free 3
  have HF := Lib.hid ((((h4.set 0 (.string sb)).set 1 (.int .i64 (y : Int))).set 2 (.slice ao no co)).set 3 (.int .i64 most))
  clear h4
  go_wp2_with fail
  refine bodyPost_ret3c rfl rfl HF.out.at_ Try.underlying85 rfl (by show _ = some 4; kernel_rfl) rfl ?_
  exact ⟨z, x, y, rfl, HZX.out, HF.out.right.right⟩
end Go.Proofs.Ytddifndfppilkaa
