/-
  Layer 28 (console): what a session tells, into the Builder that lies within it.
-/
import Derived.Test.YtknelobnbpboiaaGreatDoorSepS
import Derived.Test.YtknelobnbpboiaaGreatDoorStm
import Derived.Test.YtknelobnbpboiaaGreatDoorChecked
import Derived.Lib.Builder
import Derived.Lib.UnsafeStr
import Derived.Laws.Externs
namespace Go.Proofs.YtknelobnbpboiaaGreatDoor
open Go.RowKit Go.Mz
set_option linter.unusedVariables false
set_option linter.unusedSimpArgs false
set_option maxRecDepth 100000

/-- A session's cells: images, options (of them 'low' alone may turn here), file, and the Builder: its address, its bytes. -/
def sesC (l : Value) (lw : Bool) (f p q : Value) : Array Value := #[l, .bool false, .bool false, .bool false, .int .i64 0, .int .i64 32768, .bool false, .int .i64 1, .bool false, .bool lw, .bool false, .int .i64 1, .bool false, .bool false, .int .i64 0, f, p, q]
def sesO (l : Value) (lw : Bool) (f p q : Value) : Obj := .cells (sesC l lw f p q) 39
theorem shape_blk {w0 w : World} {b : Nat} {c : Array Value} {e : TypeId} {fr : Nat × Nat} {F : SProp} (h : St w0 w (blk b (.cells c e fr) * F)) : w.shape? b = some (e, c.size) := by
  simp [World.shape?, h.at_]
theorem infoBuilder : ∃ j, Tryz.prog.info? 37 = some j ∧ j.size = 2 := by
  obtain ⟨j, hj, hs⟩ := Option.map_eq_some_iff.1 (show (Tryz.prog.info? 37).map (·.size) = some 2 by kernel_rfl)
  exact ⟨j, hj, hs⟩
theorem liesBuilder : liesAt Tryz.prog Tryz.prog.depth 39 (18 / Tryz.prog.cellsOf 39) 16 37 1 = true := by kernel_rfl

set_option maxHeartbeats 4000000 in
theorem check_any {w0 w : World} {b : Nat} {l f p q : Value} {lw : Bool} {F : SProp} (h : St w0 w (blk b (sesO l lw f p q) * F)) (hp : p = .pointer none ∨ p = .pointer (some ⟨b, 16, none⟩)) :
    Calls Tryz.prog 52 #[.pointer (some ⟨b, 16, none⟩)] w fun e w' => e = .returned (.tuple #[]) ∧ St w0 w' (blk b (sesO l lw f (.pointer (some ⟨b, 16, none⟩)) q) * F) := by
  obtain ⟨j, hj, hjs⟩ := infoBuilder
  have h16 : w.cell? ⟨b, 16, none⟩ = some p := h.cell 16 rfl
  have hfz : w.frozen? ⟨b, 16, none⟩ = false := h.free 16
  have hsh : w.shape? b = some (39, 18) := shape_blk h
  have H := Lib.hid h; clear h
  rcases hp with rfl | rfl
  · go_enter Tryz.func52, Tryz.ntmps52
    go_wp2
    rw [Lib.run_to_unsafe _ ⟨b, 16, none⟩ Tryz.underlying35 Tryz.underlying119 hj (by rw [hjs]; decide) hsh (show 16 < 18 by decide)]
    simp only [Result.andThen]
    rw [Oper.upon_value]
    go_wp2
    rw [run_callFunc_extern Tryz.func69 (by kernel_rfl) (by kernel_rfl) (by kernel_rfl) (e := Extern.AbiNoEscape.same) (by kernel_rfl)]
    rw [Lib.run_noEscape]
    simp only [Result.andThen]
    rw [Oper.upon_value]
    go_wp2
    rw [Lib.run_from_unsafe _ ⟨b, 16, none⟩ Tryz.underlying119 Tryz.underlying35 hj hsh liesBuilder]
    simp only [Result.andThen]
    rw [Oper.upon_value]
    go_wp2
    go_end0
    exact ⟨rfl, H.out.set 16 _⟩
  · go_enter Tryz.func52, Tryz.ntmps52
    go_wp2
    rw [Lib.run_neq_ptr_same _ _ Tryz.underlying35 hj]
    go_wp2
    go_end0
    exact ⟨rfl, H.out⟩

def bC (b : UInt8) : Value := .int .u8 b.toNat
theorem elemB8 : ElemT Tryz.prog 24 5 1 1 (.int .u8 0) :=
  ⟨Tryz.underlying24, info_parts (by kernel_rfl), rfl, by decide⟩
theorem strC (s : ByteArray) : Lib.strCells s = s.data.toList.map bC := rfl
theorem bC_one (l : List UInt8) : ∀ u ∈ l.map bC, u.oneCell' = true := by
  intro u hu
  obtain ⟨x, _, rfl⟩ := List.mem_map.1 hu
  rfl
/-- A session at block b: images, low, file, and what has been told. -/
def sesB (b : Nat) (l : Value) (lw : Bool) (f : Value) (out : List UInt8) : SProp := sEx fun x : Value × Value =>
  lift (x.1 = .pointer none ∨ x.1 = .pointer (some ⟨b, 16, none⟩)) * (blk b (sesO l lw f x.1 x.2) * own 5 1 x.2 out.length (out.map bC))
theorem sesB_open {w0 w : World} {b : Nat} {l f : Value} {lw : Bool} {out : List UInt8} {F : SProp} (h : St w0 w (sesB b l lw f out * F)) :
    ∃ p q, (p = .pointer none ∨ p = .pointer (some ⟨b, 16, none⟩)) ∧ St w0 w (blk b (sesO l lw f p q) * (own 5 1 q out.length (out.map bC) * F)) := by
  obtain ⟨⟨p, q⟩, h⟩ := h.ex_l
  obtain ⟨h1, h⟩ := (h.perm (star_assoc _ _ _)).pure_l
  exact ⟨p, q, h1, h.perm (star_assoc _ _ _)⟩
theorem sesB_shut {w0 w : World} {b : Nat} {l f p q : Value} {lw : Bool} {out : List UInt8} {F : SProp} (h1 : p = .pointer none ∨ p = .pointer (some ⟨b, 16, none⟩))
    (h : St w0 w (blk b (sesO l lw f p q) * (own 5 1 q out.length (out.map bC) * F))) : St w0 w (sesB b l lw f out * F) :=
  St.mk_ex_l (p, q) ((St.mk_pure_l h1 (h.perm (star_assoc _ _ _).symm)).perm (star_assoc _ _ _).symm)

set_option maxHeartbeats 4000000 in
theorem wstr_any {w0 w : World} {b : Nat} {l f : Value} {lw : Bool} {out : List UInt8} {F : SProp} (h : St w0 w (sesB b l lw f out * F)) (s : ByteArray) (hs : out.length + s.size ≤ 100000) :
    Calls Tryz.prog 27 #[.pointer (some ⟨b, 16, none⟩), .string s] w fun e w' => (∃ v, e = .returned v) ∧ St w0 w' (sesB b l lw f (out ++ s.data.toList) * F) := by
  obtain ⟨p, q, hp, h⟩ := sesB_open h
  have hc := check_any h hp
  have HC := Lib.hid hc; clear hc h
  obtain ⟨n, hn⟩ : ∃ n, out.length = n := ⟨_, rfl⟩
  rw [hn] at hs HC
  have hs1 : s.size ≤ 100000 := by omega
  have HN := Lib.hid hn; clear hn
  have T := elemB8
  go_enter Tryz.func27, Tryz.ntmps27
  go_wp2_with (first
    | (go_at_call 52; refine HC.out.mono ?_; rintro e w1 ⟨rfl, h1⟩; have H1 := Lib.hid h1; have h17 : w1.cell? ⟨b, 17, none⟩ = some q := h1.cell 17 rfl; clear h1 HC)
    | (at_builtin; apply stop))
  refine on (wpList_append_strsep T Tryz.underlying9 rfl _ _ rfl rfl (H1.out.perm (star_left_comm _ _ _)) rfl (by unfold maxLen; omega) (by omega) ?_)
  intro v' w2 h2
  have h3 := h2.perm (star_left_comm _ _ _)
  have H3 := Lib.hid h3
  have hf : w2.frozen? ⟨b, 17, none⟩ = false := h3.free 17
  have h17 : w2.cell? ⟨b, 17, none⟩ = some q := h3.cell 17 rfl
  obtain ⟨a2, c2, rfl⟩ := h2.reads.sub
  clear h3 h2 H1
  go_wp2_with fail
  go_ret2
  refine ⟨⟨_, rfl⟩, sesB_shut (q := .slice a2 (n + s.size) c2) (.inr rfl) ?_⟩
  have h4 := H3.out.set 17 (.slice a2 (n + s.size) c2)
  rw [List.length_append, List.map_append, HN.out, Array.length_toList]
  exact h4

set_option maxHeartbeats 4000000 in
theorem wbyte_any {w0 w : World} {b : Nat} {l f : Value} {lw : Bool} {out : List UInt8} {F : SProp} (h : St w0 w (sesB b l lw f out * F)) (c : UInt8) (hs : out.length + 1 ≤ 100000) :
    Calls Tryz.prog 29 #[.pointer (some ⟨b, 16, none⟩), .int .u8 c.toNat] w fun e w' => (∃ v, e = .returned v) ∧ St w0 w' (sesB b l lw f (out ++ [c]) * F) := by
  obtain ⟨p, q, hp, h⟩ := sesB_open h
  have hc := check_any h hp
  have HC := Lib.hid hc; clear hc h
  obtain ⟨n, hn⟩ : ∃ n, out.length = n := ⟨_, rfl⟩
  rw [hn] at hs HC
  have HN := Lib.hid hn; clear hn
  have T := elemB8
  obtain ⟨k, hk⟩ : ∃ k : Int, k = c.toNat := ⟨_, rfl⟩
  rw [← hk]
  have HK := Lib.hid hk; clear hk
  go_enter Tryz.func29, Tryz.ntmps29
  go_wp2_with (first
    | (go_at_call 52; refine HC.out.mono ?_; rintro e w1 ⟨rfl, h1⟩; have H1 := Lib.hid h1; have h17 : w1.cell? ⟨b, 17, none⟩ = some q := h1.cell 17 rfl; clear h1 HC)
    | (at_builtin; apply stop))
  refine on (wpList_append_sep T rfl _ _ rfl rfl ((H1.out.perm (star_left_comm _ _ _)).drop_alloc (.cells #[.int .u8 k] 5)) rfl ((H1.out.lit #[.int .u8 k] 5 1 rfl (by decide)).reads) (by intro u hu; simp at hu; subst hu; rfl) (by unfold maxLen; omega) (by omega) ?_)
  intro v' w2 h2 _
  have h3 := h2.perm (star_left_comm _ _ _)
  have H3 := Lib.hid h3
  have hf : w2.frozen? ⟨b, 17, none⟩ = false := h3.free 17
  have h17 : w2.cell? ⟨b, 17, none⟩ = some q := h3.cell 17 rfl
  obtain ⟨a2, c2, rfl⟩ := h2.reads.sub
  clear h3 h2 H1
  go_wp2_with fail
  go_ret
  refine ⟨⟨_, rfl⟩, sesB_shut (q := .slice a2 (n + 1) c2) (.inr rfl) ?_⟩
  have h4 := H3.out.set 17 (.slice a2 (n + 1) c2)
  rw [List.length_append, List.map_append, HN.out]
  rw [HK.out] at h4
  exact h4

set_option maxHeartbeats 4000000 in
theorem str_nil {w0 w : World} {b : Nat} {l f p : Value} {lw : Bool} {F : SProp} (h : St w0 w (blk b (sesO l lw f p (.slice none 0 0)) * F)) :
    Calls Tryz.prog 8 #[.pointer (some ⟨b, 16, none⟩)] w fun e w' => e = .returned (.string ⟨#[]⟩) ∧ St w0 w' F := by
  have hUS : ∀ (W : World) (q : Option Addr), (Builtin.unsafeString_ #[64, 3] 9 #[.pointer q, .int .i64 0]).run Tryz.prog W = .ok (.string .empty) W := fun W q => Lib.run_unsafeString_none W _ _ _ q
  have c1 : w.drew.cell? ⟨b, 17, none⟩ = some (.slice none 0 0) := h.drew.cell 17 rfl
  have hSD : (Builtin.unsafeSliceData_ #[24] 64 #[.slice none 0 0]).run Tryz.prog w.drew = .ok (.pointer none) w.drew := rfl
  have HF := Lib.hid h.drew.right; clear h
  go_enter Tryz.func8, Tryz.ntmps8
  go_wp2
  go_region
  all_goals (go_wp2; go_ret; exact ⟨rfl, HF.out⟩)

set_option maxHeartbeats 4000000 in
theorem str_any {w0 w : World} {b : Nat} {l f : Value} {lw : Bool} {out : List UInt8} {F : SProp} (h : St w0 w (sesB b l lw f out * F)) (h0 : out ≠ []) :
    Calls Tryz.prog 8 #[.pointer (some ⟨b, 16, none⟩)] w fun e w' => e = .returned (.string ⟨out.toArray⟩) ∧ St w0 w' F := by
  obtain ⟨p, q, hp, h⟩ := sesB_open h
  have hl0 : out.length ≠ 0 := by simpa using h0
  have h' := h.perm (star_left_comm _ _ _)
  obtain ⟨hl, ⟨_, hz, _⟩ | ⟨g, cap, cur, rfl, hnc, hcm, hcs, htake, hB⟩⟩ := h'.own_split
  · exact absurd hz hl0
  have c1 : w.drew.cell? ⟨b, 17, none⟩ = some (.slice (some ⟨g, 0, none⟩) out.length cap) := h.drew.cell 17 rfl
  have hSD : (Builtin.unsafeSliceData_ #[24] 64 #[.slice (some ⟨g, 0, none⟩) out.length cap]).run Tryz.prog w.drew = .ok (.pointer (some ⟨g, 0, none⟩)) w.drew :=
    Lib.run_unsafeSliceData_row _ _ _ _ _ _ (by omega)
  have hUS : (Builtin.unsafeString_ #[64, 3] 9 #[.pointer (some ⟨g, 0, none⟩), .int .i64 out.length]).run Tryz.prog w.drew = .ok (.string ⟨out.toArray⟩) (w.drew.freeze ⟨g, 0, none⟩ out.length) := by
    refine Lib.run_unsafeString_row w.drew 64 3 9 5 Tryz.underlying64 (by kernel_rfl) g cur.size (shape_blk hB.drew) out h0 (by omega) (by unfold maxLen at hcm; omega) ?_
    intro j x hx
    rw [Addr.add_lit, Nat.zero_add, hB.drew.cells]
    have hx' : (cur.toList.take (out.length * 1))[j]? = some (bC x) := by rw [htake, List.getElem?_map, hx]; rfl
    rw [List.getElem?_take] at hx'
    split at hx'
    · simpa [bC] using hx'
    · cases hx'
  have hfr : St w0 (w.drew.freeze ⟨g, 0, none⟩ out.length) F := by
    have hB' : St w0 w.drew (blk g (.cells cur 5 (0, 0)) * (blk b (sesO l lw f p (.slice (some ⟨g, 0, none⟩) out.length cap)) * F)) := hB.drew
    have hat := hB'.at_
    have e : w.drew.freeze ⟨g, 0, none⟩ out.length = _ := if_neg hl0
    refine (hB'.upd (w' := w.drew.freeze ⟨g, 0, none⟩ out.length) (o' := .cells cur 5 (0, 0 + out.length)) (by rw [e]) (by rw [e]) (by rw [e]) (by rw [e]; simp) (by rw [e]; simp [Array.getElem?_modify, hat]) (fun k _ hk => by rw [e]; simp [Array.getElem?_modify, Ne.symm hk])).right.right
  have HF := Lib.hid hfr
  obtain ⟨n, hn⟩ : ∃ n, out.length = n := ⟨_, rfl⟩
  rw [hn] at c1 hSD hUS HF
  clear hfr hB h h' htake hcs hl hl0 hn
  go_enter Tryz.func8, Tryz.ntmps8
  go_wp2
  go_region
  all_goals (go_wp2; go_ret; exact ⟨rfl, HF.out⟩)
#print axioms str_nil
#print axioms str_any
#print axioms wstr_any
#print axioms wbyte_any
end Go.Proofs.YtknelobnbpboiaaGreatDoor
