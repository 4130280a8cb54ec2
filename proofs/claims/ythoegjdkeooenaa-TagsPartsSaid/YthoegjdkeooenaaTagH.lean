/-
  Layer 23, the document: how a page is told (package mezzotintref23).
-/
import Derived.Test.YthoegjdkeooenaaTagG
import Derived.Test.YthoegjdkeooenaaTagS
namespace Go.Proofs.Ythoegjdkeooenaa
open Go.RowKit Go.Mz
set_option linter.unusedVariables false
set_option linter.unusedSimpArgs false
set_option maxRecDepth 100000

def tgs : List Nat := [262, 266, 284, 317, 292, 293]
def lss : List Nat := [0, 1, 1, 1, 0, 0]
def mss : List Nat := [65535, 2, 2, 3, 4294967295, 4294967295]
def xV (l : List Fld) (k : Nat) : Nat := oneV l (tgs.getD k 0) (lss.getD k 0) (mss.getD k 0) (lss.getD k 0)
def xE (l : List Fld) (k : Nat) : Nat := oneE l (tgs.getD k 0) (lss.getD k 0) (mss.getD k 0)
def xL (l : List Fld) : List Nat := [xV l 0, xV l 1, xV l 2, xV l 3, xV l 4, xV l 5]
theorem xL_get (l : List Fld) {k : Nat} (hk : k < 6) : (xL l)[k]? = some (xV l k) := by
  match k, hk with
  | 0, _ => rfl
  | 1, _ => rfl
  | 2, _ => rfl
  | 3, _ => rfl
  | 4, _ => rfl
  | 5, _ => rfl
theorem xL_take (l : List Fld) {k : Nat} (hk : k < 6) : (xL l).take (k + 1) = (xL l).take k ++ [xV l k] := by
  match k, hk with
  | 0, _ => rfl
  | 1, _ => rfl
  | 2, _ => rfl
  | 3, _ => rfl
  | 4, _ => rfl
  | 5, _ => rfl
def howE (l : List Fld) : Nat :=
  firstE [oneE l 259 1 topN, if schemeL.contains (schV l) then 0 else 9, xE l 0, xE l 1, xE l 2, xE l 3, if xV l 3 = 3 then 9 else 0, xE l 4, xE l 5, faxE l]
theorem how_stop {a b f p3 : Nat} (e : Nat → Nat) {k : Nat} (hk : k < 6) (h1 : a = 0) (h2 : b = 0) (hz : ∀ i, i < k → e i = 0) (h3 : 3 < k → p3 = 0) (hne : e k ≠ 0) : firstE [a, b, e 0, e 1, e 2, e 3, p3, e 4, e 5, f] = e k := by
  subst h1 h2
  simp only [firstE_cons, orE_zero]
  have hq : k = 0 ∨ k = 1 ∨ k = 2 ∨ k = 3 ∨ k = 4 ∨ k = 5 := by omega
  rcases hq with rfl | rfl | rfl | rfl | rfl | rfl
  · rw [orE_nz hne]
  · rw [hz 0 (by omega), orE_zero, orE_nz hne]
  · rw [hz 0 (by omega), hz 1 (by omega), orE_zero, orE_zero, orE_nz hne]
  · rw [hz 0 (by omega), hz 1 (by omega), hz 2 (by omega), orE_zero, orE_zero, orE_zero, orE_nz hne]
  · rw [hz 0 (by omega), hz 1 (by omega), hz 2 (by omega), hz 3 (by omega), h3 (by omega), orE_zero, orE_zero, orE_zero, orE_zero, orE_zero, orE_nz hne]
  · rw [hz 0 (by omega), hz 1 (by omega), hz 2 (by omega), hz 3 (by omega), h3 (by omega), hz 4 (by omega), orE_zero, orE_zero, orE_zero, orE_zero, orE_zero, orE_zero, orE_nz hne]
theorem how_three {a b f p3 : Nat} (e : Nat → Nat) (h1 : a = 0) (h2 : b = 0) (hz : ∀ i, i < 4 → e i = 0) (hne : p3 ≠ 0) : firstE [a, b, e 0, e 1, e 2, e 3, p3, e 4, e 5, f] = p3 := by
  subst h1 h2
  simp only [firstE_cons, orE_zero]
  rw [hz 0 (by omega), hz 1 (by omega), hz 2 (by omega), hz 3 (by omega), orE_zero, orE_zero, orE_zero, orE_zero, orE_nz hne]
theorem how_last {a b f p3 : Nat} (e : Nat → Nat) (h1 : a = 0) (h2 : b = 0) (hz : ∀ i, i < 6 → e i = 0) (h3 : p3 = 0) : firstE [a, b, e 0, e 1, e 2, e 3, p3, e 4, e 5, f] = f := by
  subst h1 h2 h3
  simp only [firstE_cons, orE_zero]
  rw [hz 0 (by omega), hz 1 (by omega), hz 2 (by omega), hz 3 (by omega), hz 4 (by omega), hz 5 (by omega)]
  simp only [orE_zero]
  exact orE_nil _
abbrev nilV : Value := .slice none 0 0
def pgI (per bi : Nat) : PgD := ⟨⟨0, 0, false, 0, 0⟩, per, bi, 0, false, 0, false, false, false, [], [], []⟩
def pgH (l : List Fld) (per bi : Nat) : PgD := ⟨⟨0, 0, false, 0, 0⟩, per, bi, xV l 0, xV l 2 == 2, (schV l : Nat), xV l 3 == 2, xV l 1 == 2, schV l == 3 && xV l 4 % 2 == 1, [], [], []⟩
theorem cells6 {b : Nat} {w0 w : World} {F : SProp} {e : TypeId} {k1 : IntKind} (l : List Nat) (hl : l.length = 6) (h : St w0 w (own e 1 (.slice (some ⟨b, 0, none⟩) 6 6) 6 (l.map fun (n : Nat) => Value.int k1 (n : Int)) * F)) {k : Nat} (hk : k < 6) : w.cell? ⟨b, k, none⟩ = some (.int k1 (l.getD k 0 : Nat)) := by
  have := h.own_cell (i := k) (u := .int k1 (l.getD k 0 : Nat)) (by rw [List.getElem?_map, List.getElem?_eq_getElem (by omega), List.getD_eq_getElem?_getD, List.getElem?_eq_getElem (by omega)]; rfl)
  exact this

/-- What 'how' gives. -/
def HowOut (w0 : World) (F : SProp) (PH : PgD) (er : Nat) (r : Ending) (w' : World) : Prop :=
  ∃ p' : PgD, r = .returned (.tuple #[.agg (pgC p' nilV nilV nilV), .int .i64 (er : Int)]) ∧ (er = 0 → p' = PH) ∧ St w0 w' F
theorem three_lit {w0 w : World} {F : SProp} (h : St w0 w F) (c0 c1 c2 : Array Value) (e0 e1 e2 : TypeId) (n : Nat) (h0 : c0.size = n) (h1 : c1.size = n) (h2 : c2.size = n) (hm : n ≤ maxLen) :
    St w0 (((w.alloc (.cells c0 e0)).alloc (.cells c1 e1)).alloc (.cells c2 e2)) (own e0 1 (.slice (some ⟨w.heap.size, 0, none⟩) n n) n c0.toList * (own e1 1 (.slice (some ⟨w.heap.size + 1, 0, none⟩) n n) n c1.toList * (own e2 1 (.slice (some ⟨w.heap.size + 1 + 1, 0, none⟩) n n) n c2.toList * F))) := by
  have a0 := h.lit c0 e0 n h0 hm
  have a1 := a0.lit c1 e1 n h1 hm
  have a2 := a1.lit c2 e2 n h2 hm
  have s1 : (w.alloc (.cells c0 e0)).heap.size = w.heap.size + 1 := Array.size_push _
  have s2 : ((w.alloc (.cells c0 e0)).alloc (.cells c1 e1)).heap.size = w.heap.size + 1 + 1 := by rw [← s1]; exact Array.size_push _
  rw [s2, s1] at a2
  exact a2.perm (by ac_rfl)

set_option maxHeartbeats 40000000 in
theorem rhow_any {w0 w : World} {F : SProp} (h : St w0 w F) {v : Value} {L : List FV} (hvs : Stb w0 F (fun w => FldsR w v L)) (hL : L.length ≤ 1000000) (hT : ∀ x ∈ L, x.2.tag < 65536) {per bi : Nat} (hper : per = perV (fl L)) (hbi : bi = bitsV (fl L) per) (hp8 : per ≤ 8) (hb32 : bi ≤ 32) :
    Calls Try.prog 32 #[v, .agg (pgC (pgI per bi) nilV nilV nilV)] w (HowOut w0 F (pgH (fl L) per bi) (howE (fl L))) := by
  have HON := Lib.hid (fun (w : World) (h : St w0 w F) (t least most : Nat) => rone_any (hvs w h) hL hT t least most least rfl rfl rfl rfl)
  have HO1 := Lib.hid (fun (w : World) (h : St w0 w F) => rone_any (hvs w h) hL hT 259 1 topN 1 (j := 259) (jl := 1) (jm := 4294967295) (jw := 1) rfl rfl rfl rfl)
  obtain ⟨a, cap, rfl⟩ := (hvs w h).row.sub
  obtain ⟨er, her⟩ : ∃ er, er = howE (fl L) := ⟨_, rfl⟩
  rw [← her]
  have hfx : faxE (fl L) = faxD (xV (fl L) 4) (xV (fl L) 5) (schV (fl L) : Nat) (per : Int) (bi : Int) (xV (fl L) 3 == 2) := by
    rw [faxE_eq, ← hper, ← hbi]; rfl
  unfold howE at her
  rw [hfx] at her
  clear hfx hper hbi
  obtain ⟨PH, hPH⟩ : ∃ PH, PH = pgH (fl L) per bi := ⟨_, rfl⟩
  rw [← hPH]
  unfold pgH at hPH
  have hsv := oneV_within (l := fl L) (t := 259) (least := 1) (most := topN) (without := 1) (by decide) (by decide)
  have hso : oneE (fl L) 259 1 topN = 0 → oneR (fl L) 259 1 topN 1 = schV (fl L) := fun h => by rw [oneR, if_pos h]; rfl
  rw [show oneV (fl L) 259 1 topN 1 = schV (fl L) from rfl] at hsv
  have hsc : schemeI (schV (fl L) : Int) = schemeL.contains (schV (fl L)) := any_contains _ _
  have hx4 : xV (fl L) 4 < 18446744073709551616 ∧ xV (fl L) 5 < 18446744073709551616 := by
    have h1 := (oneV_within (l := fl L) (t := 292) (least := 0) (most := topN) (without := 0) (by decide) (by decide)).2
    have h2 := (oneV_within (l := fl L) (t := 293) (least := 0) (most := topN) (without := 0) (by decide) (by decide)).2
    have e1 : xV (fl L) 4 = oneV (fl L) 292 0 topN 0 := rfl
    have e2 : xV (fl L) 5 = oneV (fl L) 293 0 topN 0 := rfl
    rw [e1, e2]; unfold topN at *; omega
  have HXO : Hid (∀ k, xE (fl L) k = 0 → oneR (fl L) (tgs.getD k 0) (lss.getD k 0) (mss.getD k 0) (lss.getD k 0) = xV (fl L) k) := Lib.hid (fun k h => by unfold xE at h; rw [oneR, if_pos h]; rfl)
  have HXR := Lib.hid (fun (w : World) (h : St w0 w F) (k : Nat) => (rone_any (hvs w h) hL hT (tgs.getD k 0) (lss.getD k 0) (mss.getD k 0) (lss.getD k 0) rfl rfl rfl rfl))
  obtain ⟨xv, hxv⟩ : ∃ xv, xv = xV (fl L) := ⟨_, rfl⟩
  obtain ⟨xe, hxe⟩ : ∃ xe, xe = xE (fl L) := ⟨_, rfl⟩
  have HXT := Lib.hid (fun (k : Nat) (hk : k < 6) => xL_take (fl L) hk)
  have HXG := Lib.hid (fun (k : Nat) (hk : k < 6) => xL_get (fl L) hk)
  obtain ⟨xl, hxl⟩ : ∃ xl, xl = xL (fl L) := ⟨_, rfl⟩
  rw [← hxv, ← hxe] at HXO
  rw [← hxv] at HXT HXG hPH hx4
  rw [← hxv, ← hxe] at her
  rw [← hxl] at HXT HXG
  have HXE := Lib.hid hxe
  clear hxv hxe
  generalize schV (fl L) = sv at *
  generalize oneE (fl L) 259 1 topN = oe at *
  generalize oneR (fl L) 259 1 topN 1 = so at *
  obtain ⟨sb, hsb⟩ : ∃ sb, sb = schemeL.contains sv := ⟨_, rfl⟩
  rw [← hsb] at hsc her
  obtain ⟨sv1, sv4⟩ := hsv
  have sv4 : sv ≤ 4294967295 := sv4
  obtain ⟨x4b, x5b⟩ := hx4
  have HER := Lib.hid her; have HPH := Lib.hid hPH
  have HSO := Lib.hid hso
  have HSC := Lib.hid (fun w => by have := rscheme_any (sv : Int) w; rw [hsc] at this; exact this)
  have HSB := Lib.hid hsb
  have HXL6 := Lib.hid (show xl.length = 6 by rw [hxl]; rfl)
  clear her hPH hso hsc hsb hvs hxl
  have h1 := (h.alloc (.cells (pgC (pgI per bi) nilV nilV nilV) 30)).alloc (.cells pg0 30)
  have hsz : (w.alloc (.cells (pgC (pgI per bi) nilV nilV nilV) 30)).heap.size = w.heap.size + 1 := Array.size_push _
  rw [hsz] at h1
  have H1 := Lib.hid h1
  clear h1 h hsz
  unfold pgC pgI at H1
  unfold pgC pgI
  simp only at H1
  simp only
  go_enter Try.func32, Try.ntmps32
  go_upto_region 1 with (fail)
  generalize hbp : w.heap.size = bp at *
  generalize hbr : bp + 1 = br at *
  clear hbp hbr
  have HS : Hid (St w0 _ (blk bp (.cells #[.int .i64 0, .int .i64 0, .bool false, .int .i64 0, .int .i64 0, .int .i64 (per : Int), .int .i64 (bi : Int), .int .u64 ((0 : Nat) : Int), .bool false, .int .i64 0, .bool false, .bool false, .bool false, nilV, nilV, nilV] 30) * (blk br (.cells #[.int .i64 0, .int .i64 0, .bool false, .int .i64 0, .int .i64 0, .int .i64 0, .int .i64 0, .int .u64 0, .bool false, .int .i64 0, .bool false, .bool false, .bool false, nilV, nilV, nilV] 30) * (F)))) := Lib.hid (H1.out.perm (star_left_comm _ _ _))
  clear H1
  generalize World.alloc _ _ = wa at *
  go_wp2_with (go_at_call 52; refine (HO1.out _ HS.out.right.right).mono ?_; rintro r w2 ⟨rfl, rfl⟩; apply stop)
  refine on ?_
  by_cases z1 : oe = 0
  rotate_left
  · have zI : ¬ (oe : Int) = 0 := by omega
    obtain rfl : er = oe := by rw [HER.out, firstE_cons, orE_nz z1]
    have HB := Lib.hid (HS.out.perm (star_left_comm _ _ _))
    have HR := Lib.hid (HB.out.setRow #[.int .i64 0, .int .i64 0, .bool false, .int .i64 0, .int .i64 0, .int .i64 (per : Int), .int .i64 (bi : Int), .int .u64 ((0 : Nat) : Int), .bool false, .int .i64 0, .bool false, .bool false, .bool false, nilV, nilV, nilV])
    go_wp2_with (first | (refine wpList_load_blk rfl 30 _ rfl HS.out rfl Try.underlying30 rfl (by show _ = some 16; kernel_rfl) ?_) | (refine wpList_store_blk rfl 30 _ _ rfl HB.out rfl rfl (by show _ = some 16; kernel_rfl) rfl rfl ?_))
    refine bodyPost_ret2c rfl rfl HR.out.at_ Try.underlying30 rfl (by show _ = some 16; kernel_rfl) rfl ?_
    refine ⟨pgI per bi, rfl, fun h0 => absurd h0 (by first | decide | assumption), HR.out.right.right⟩
  subst z1
  obtain rfl := HSO.out rfl
  go_upto_if 29 with (go_at_call 18; refine (HSC.out _).mono ?_; rintro r w2 ⟨rfl, rfl⟩)
  cases sb
  · obtain rfl : er = 9 := by rw [HER.out, firstE_cons, firstE_cons, orE_zero]; rfl
    have HB := Lib.hid (HS.out.perm (star_left_comm _ _ _))
    have HR := Lib.hid (HB.out.setRow #[.int .i64 0, .int .i64 0, .bool false, .int .i64 0, .int .i64 0, .int .i64 (per : Int), .int .i64 (bi : Int), .int .u64 ((0 : Nat) : Int), .bool false, .int .i64 0, .bool false, .bool false, .bool false, nilV, nilV, nilV])
    go_wp2_with (first | (refine wpList_load_blk rfl 30 _ rfl HS.out rfl Try.underlying30 rfl (by show _ = some 16; kernel_rfl) ?_) | (refine wpList_store_blk rfl 30 _ _ rfl HB.out rfl rfl (by show _ = some 16; kernel_rfl) rfl rfl ?_))
    refine bodyPost_ret2c rfl rfl HR.out.at_ Try.underlying30 rfl (by show _ = some 16; kernel_rfl) rfl ?_
    refine ⟨pgI per bi, rfl, fun h0 => absurd h0 (by first | decide | assumption), HR.out.right.right⟩
  have hb9 := HS.out
  have c9 := hb9.cell 9 rfl
  have f9 := hb9.free 9
  have HS2 := Lib.hid (hb9.set 9 (.int .i64 (so : Int)))
  clear hb9
  go_upto_region 7 with (fail)
  have HS9 : Hid (St w0 _ (blk bp (.cells #[.int .i64 0, .int .i64 0, .bool false, .int .i64 0, .int .i64 0, .int .i64 (per : Int), .int .i64 (bi : Int), .int .u64 ((0 : Nat) : Int), .bool false, .int .i64 (so : Int), .bool false, .bool false, .bool false, nilV, nilV, nilV] 30) * (blk br (.cells #[.int .i64 0, .int .i64 0, .bool false, .int .i64 0, .int .i64 0, .int .i64 0, .int .i64 0, .int .u64 0, .bool false, .int .i64 0, .bool false, .bool false, .bool false, nilV, nilV, nilV] 30) * (F)))) := HS2
  clear HS HS2 c9 f9
  have HS := HS9
  clear HS9
  generalize World.setCell _ _ _ = wb at *
  have h3 := three_lit HS.out #[.int .i64 262, .int .i64 266, .int .i64 284, .int .i64 317, .int .i64 292, .int .i64 293] #[.int .u64 0, .int .u64 1, .int .u64 1, .int .u64 1, .int .u64 0, .int .u64 0] #[.int .u64 65535, .int .u64 2, .int .u64 2, .int .u64 3, .int .u64 4294967295, .int .u64 4294967295] 3 27 27 6 rfl rfl rfl (by decide)
  have H5 := Lib.hid h3
  clear h3 HS
  go_upto_region 11 with (fail)
  generalize hbt : wb.heap.size = bt at *
  generalize hbl : bt + 1 = bl at *
  generalize hbm : bl + 1 = bm at *
  clear hbt hbl hbm
  have HS : Hid (St w0 _ (own 3 1 (.slice (some ⟨bt, 0, none⟩) 6 6) 6 (tgs.map fun (n : Nat) => Value.int .i64 (n : Int)) * (own 27 1 (.slice (some ⟨bl, 0, none⟩) 6 6) 6 (lss.map fun (n : Nat) => Value.int .u64 (n : Int)) * (own 27 1 (.slice (some ⟨bm, 0, none⟩) 6 6) 6 (mss.map fun (n : Nat) => Value.int .u64 (n : Int)) * (blk bp (.cells #[.int .i64 0, .int .i64 0, .bool false, .int .i64 0, .int .i64 0, .int .i64 (per : Int), .int .i64 (bi : Int), .int .u64 ((0 : Nat) : Int), .bool false, .int .i64 (so : Int), .bool false, .bool false, .bool false, nilV, nilV, nilV] 30) * (blk br (.cells #[.int .i64 0, .int .i64 0, .bool false, .int .i64 0, .int .i64 0, .int .i64 0, .int .i64 0, .int .u64 0, .bool false, .int .i64 0, .bool false, .bool false, .bool false, nilV, nilV, nilV] 30) * F)))))) := H5
  clear H5
  generalize World.alloc _ _ = wc at *
  have h1 := HS.out.own_nil 27 1
  have HS9 : Hid (St w0 wc (blk bp (.cells #[.int .i64 0, .int .i64 0, .bool false, .int .i64 0, .int .i64 0, .int .i64 (per : Int), .int .i64 (bi : Int), .int .u64 ((0 : Nat) : Int), .bool false, .int .i64 (so : Int), .bool false, .bool false, .bool false, nilV, nilV, nilV] 30) * (blk br (.cells #[.int .i64 0, .int .i64 0, .bool false, .int .i64 0, .int .i64 0, .int .i64 0, .int .i64 0, .int .u64 0, .bool false, .int .i64 0, .bool false, .bool false, .bool false, nilV, nilV, nilV] 30) * (own 27 1 (.slice none 0 0) 0 ([] : List Value) * (own 3 1 (.slice (some ⟨bt, 0, none⟩) 6 6) 6 (tgs.map fun (n : Nat) => Value.int .i64 (n : Int)) * (own 27 1 (.slice (some ⟨bl, 0, none⟩) 6 6) 6 (lss.map fun (n : Nat) => Value.int .u64 (n : Int)) * (own 27 1 (.slice (some ⟨bm, 0, none⟩) 6 6) 6 (mss.map fun (n : Nat) => Value.int .u64 (n : Int)) * F))))))) := h1.perm (by ac_rfl)
  clear h1 HS
  have HS := HS9
  clear HS9
  go_wp2_with fail
  go_loopw [11, 12] (fun vv vi wr => ∃ (k : Nat) (ao : Option Addr) (co : Nat), k ≤ 6 ∧ vi = .int .i64 k ∧ vv = .slice ao k co ∧ (∀ i, i < k → xe i = 0) ∧ (3 < k → ¬ xv 3 = 3) ∧ St w0 wr (blk bp (.cells #[.int .i64 0, .int .i64 0, .bool false, .int .i64 0, .int .i64 0, .int .i64 (per : Int), .int .i64 (bi : Int), .int .u64 ((0 : Nat) : Int), .bool false, .int .i64 (so : Int), .bool false, .bool false, .bool false, nilV, nilV, nilV] 30) * (blk br (.cells #[.int .i64 0, .int .i64 0, .bool false, .int .i64 0, .int .i64 0, .int .i64 0, .int .i64 0, .int .u64 0, .bool false, .int .i64 0, .bool false, .bool false, .bool false, nilV, nilV, nilV] 30) * (own 27 1 (.slice ao k co) k ((xl.take k).map u64v) * (own 3 1 (.slice (some ⟨bt, 0, none⟩) 6 6) 6 (tgs.map fun (n : Nat) => Value.int .i64 (n : Int)) * (own 27 1 (.slice (some ⟨bl, 0, none⟩) 6 6) 6 (lss.map fun (n : Nat) => Value.int .u64 (n : Int)) * (own 27 1 (.slice (some ⟨bm, 0, none⟩) 6 6) 6 (mss.map fun (n : Nat) => Value.int .u64 (n : Int)) * F))))))) (fun _ vi _ => 6 - (intOf vi).toNat)
  case atStart => exact ⟨0, none, 0, by omega, rfl, rfl, fun i hi => absurd hi (by omega), fun h => absurd h (by omega), HS.out⟩
  case round =>
    clear HS
    obtain ⟨k, ao, co, hk, rfl, rfl, hz, h3, hst⟩ := hrel
    have HZ := Lib.hid hz; have H3 := Lib.hid h3
    clear hz h3
    have HF := Lib.hid hst.right.right.right.right.right.right
    by_cases hkn : k < 6
    · have hkI : (k : Int) < 6 := by omega
      have ct := cells6 tgs rfl (hst.right.right.right) hkn
      have cl := cells6 lss rfl (hst.right.right.right.right) hkn
      have cm := cells6 mss rfl (hst.right.right.right.right.right) hkn
      have HQ := Lib.hid (fun n => Calls.quiet_of_same (HXR.out _ (HF.out.drewN n) k))
      have HXK := HXO.out k
      rw [show oneE (fl L) (tgs.getD k 0) (lss.getD k 0) (mss.getD k 0) = xe k by rw [HXE.out]; rfl] at HQ
      generalize oneR (fl L) (tgs.getD k 0) (lss.getD k 0) (mss.getD k 0) (lss.getD k 0) = xk at *
      obtain ⟨ek, hek⟩ : ∃ ek, ek = xe k := ⟨_, rfl⟩
      rw [← hek] at HQ HXK
      have HEK := Lib.hid hek
      have HXK2 := Lib.hid HXK
      clear hek HXK
      have HS := Lib.hid hst
      clear hst
      go_wp2_with fail
      go_quiet (first | (go_at_call 52; exact HQ.out _))
      have hst := HS.out.drewN nq
      clear ct cl cm HS HQ
      generalize wr.drewN nq = wd at *
      have HS := Lib.hid hst
      clear hst
      by_cases z2 : ek = 0
      rotate_left
      · have zI : ¬ (ek : Int) = 0 := by omega
        obtain rfl : er = ek := by
          rw [HER.out, HEK.out]
          exact how_stop xe hkn rfl rfl HZ.out (fun h => by rw [if_neg (H3.out h)]) (by rw [← HEK.out]; exact z2)
        have HB := Lib.hid (HS.out.perm (star_left_comm _ _ _))
        have HR := Lib.hid (HB.out.setRow #[.int .i64 0, .int .i64 0, .bool false, .int .i64 0, .int .i64 0, .int .i64 (per : Int), .int .i64 (bi : Int), .int .u64 ((0 : Nat) : Int), .bool false, .int .i64 (so : Int), .bool false, .bool false, .bool false, nilV, nilV, nilV])
        go_wp2_with (first | (refine wpList_load_blk rfl 30 _ rfl HS.out rfl Try.underlying30 rfl (by show _ = some 16; kernel_rfl) ?_) | (refine wpList_store_blk rfl 30 _ _ rfl HB.out rfl rfl (by show _ = some 16; kernel_rfl) rfl rfl ?_))
        refine bodyPost_ret2c rfl rfl HR.out.at_ Try.underlying30 rfl (by show _ = some 16; kernel_rfl) rfl ?_
        refine ⟨⟨⟨0, 0, false, 0, 0⟩, per, bi, 0, false, (so : Nat), false, false, false, [], [], []⟩, rfl, fun h0 => absurd h0 (by first | decide | assumption), (by first | exact HR.out.right.right | exact HR.out.right.right.right.right.right.right | exact HR.out.right.right.right.right.right)⟩
      subst z2
      obtain rfl : xk = xv k := HXK2.out rfl
      clear HXK2
      by_cases k3 : k = 3 ∧ xv 3 = 3
      · obtain ⟨rfl, x3⟩ := k3
        obtain rfl : er = 9 := by
          rw [HER.out, if_pos x3]
          exact how_three xe rfl rfl (fun i hi => by
            rcases Nat.lt_or_ge i 3 with h | h
            · exact HZ.out i h
            · obtain rfl : i = 3 := by omega
              exact HEK.out.symm) (by decide)
        have x3I : (xv 3 : Int) = 3 := by omega
        have HB := Lib.hid (HS.out.perm (star_left_comm _ _ _))
        have HR := Lib.hid (HB.out.setRow #[.int .i64 0, .int .i64 0, .bool false, .int .i64 0, .int .i64 0, .int .i64 (per : Int), .int .i64 (bi : Int), .int .u64 ((0 : Nat) : Int), .bool false, .int .i64 (so : Int), .bool false, .bool false, .bool false, nilV, nilV, nilV])
        go_wp2_with (first | (refine wpList_load_blk rfl 30 _ rfl HS.out rfl Try.underlying30 rfl (by show _ = some 16; kernel_rfl) ?_) | (refine wpList_store_blk rfl 30 _ _ rfl HB.out rfl rfl (by show _ = some 16; kernel_rfl) rfl rfl ?_))
        refine bodyPost_ret2c rfl rfl HR.out.at_ Try.underlying30 rfl (by show _ = some 16; kernel_rfl) rfl ?_
        refine ⟨⟨⟨0, 0, false, 0, 0⟩, per, bi, 0, false, (so : Nat), false, false, false, [], [], []⟩, rfl, fun h0 => absurd h0 (by first | decide | assumption), (by first | exact HR.out.right.right | exact HR.out.right.right.right.right.right.right | exact HR.out.right.right.right.right.right)⟩
      have HSA := Lib.hid (HS.out.perm (show _ = own 27 1 (.slice ao k co) k ((xl.take k).map u64v) * (blk bp (.cells #[.int .i64 0, .int .i64 0, .bool false, .int .i64 0, .int .i64 0, .int .i64 (per : Int), .int .i64 (bi : Int), .int .u64 ((0 : Nat) : Int), .bool false, .int .i64 (so : Int), .bool false, .bool false, .bool false, nilV, nilV, nilV] 30) * (blk br (.cells #[.int .i64 0, .int .i64 0, .bool false, .int .i64 0, .int .i64 0, .int .i64 0, .int .i64 0, .int .u64 0, .bool false, .int .i64 0, .bool false, .bool false, .bool false, nilV, nilV, nilV] 30) * (own 3 1 (.slice (some ⟨bt, 0, none⟩) 6 6) 6 (tgs.map fun (n : Nat) => Value.int .i64 (n : Int)) * (own 27 1 (.slice (some ⟨bl, 0, none⟩) 6 6) 6 (lss.map fun (n : Nat) => Value.int .u64 (n : Int)) * (own 27 1 (.slice (some ⟨bm, 0, none⟩) 6 6) 6 (mss.map fun (n : Nat) => Value.int .u64 (n : Int)) * F))))) by ac_rfl))
      have h3n : (k : Int) = 3 → ¬ (xv k : Int) = 3 := by
        intro h h2
        have hk3 : k = 3 := by omega
        rw [hk3] at h2
        exact k3 ⟨hk3, by omega⟩
      have T := elemU64
      by_cases kk : k = 3
      · subst kk
        have xI : ¬ (xv 3 : Int) = 3 := h3n rfl
        clear h3n
        go_wp2_with (at_builtin; apply stop)
        refine on (wpList_append_sep T rfl _ _ rfl rfl (HSA.out.drop_alloc (.cells #[.int .u64 (xv 3 : Int)] 27)) rfl (x := .slice (some ⟨wd.heap.size, 0, none⟩) 1 1) (m := 1) (news := [u64v (xv 3)]) ((St.own_blk (e := 27) (size := 1) (n := 1) (cap := 1) (xs := [u64v (xv 3)]) ((St.init wd).alloc _) (Nat.le_refl _) (by decide) rfl rfl).reads) (by intro u hu; rw [List.mem_singleton.1 hu]; rfl) (by unfold maxLen; omega) (by omega) ?_)
        intro v7 w7 h7 _
        obtain ⟨a7, c7, rfl⟩ := h7.reads.sub
        have H7 := Lib.hid h7
        clear h7
        go_wp2_with fail
        refine ⟨⟨3 + 1, a7, c7, by omega, by go_num, rfl, ?_, ?_, ?_⟩, by simp [intOf] <;> omega⟩
        · intro i hi
          rcases Nat.lt_or_ge i 3 with h | h
          · exact HZ.out i h
          · obtain rfl : i = 3 := by omega
            exact HEK.out.symm
        · intro h
          rcases Nat.lt_or_ge 3 3 with h' | h'
          · exact H3.out h'
          · exact fun hx => k3 ⟨by omega, hx⟩
        · rw [HXT.out 3 hkn, List.map_append]
          exact H7.out.perm (by ac_rfl)
      · have kkI : ¬ (k : Int) = 3 := by omega
        clear h3n
        go_wp2_with (at_builtin; apply stop)
        refine on (wpList_append_sep T rfl _ _ rfl rfl (HSA.out.drop_alloc (.cells #[.int .u64 (xv k : Int)] 27)) rfl (x := .slice (some ⟨wd.heap.size, 0, none⟩) 1 1) (m := 1) (news := [u64v (xv k)]) ((St.own_blk (e := 27) (size := 1) (n := 1) (cap := 1) (xs := [u64v (xv k)]) ((St.init wd).alloc _) (Nat.le_refl _) (by decide) rfl rfl).reads) (by intro u hu; rw [List.mem_singleton.1 hu]; rfl) (by unfold maxLen; omega) (by omega) ?_)
        intro v7 w7 h7 _
        obtain ⟨a7, c7, rfl⟩ := h7.reads.sub
        have H7 := Lib.hid h7
        clear h7
        go_wp2_with fail
        refine ⟨⟨k + 1, a7, c7, by omega, by go_num, rfl, ?_, ?_, ?_⟩, by simp [intOf] <;> omega⟩
        · intro i hi
          rcases Nat.lt_or_ge i k with h | h
          · exact HZ.out i h
          · obtain rfl : i = k := by omega
            exact HEK.out.symm
        · intro h
          rcases Nat.lt_or_ge 3 k with h' | h'
          · exact H3.out h'
          · exact fun hx => k3 ⟨by omega, hx⟩
        · rw [HXT.out k hkn, List.map_append]
          exact H7.out.perm (by ac_rfl)
    · obtain rfl : k = 6 := by omega
      have hkI : ¬ ((6 : Nat) : Int) < 6 := by omega
      have hxl6 : xl.take 6 = xl := by
        have h := congrArg List.length (HXT.out 5 (by omega))
        have hl : xl.length = 6 := HXL6.out
        rw [List.take_of_length_le (by omega)]
      rw [hxl6] at hst
      clear hxl6
      obtain ⟨gv, rfl⟩ := own_at hst.right.right (by omega)
      have hgv := (hst.perm (show _ = blk bp (.cells #[.int .i64 0, .int .i64 0, .bool false, .int .i64 0, .int .i64 0, .int .i64 (per : Int), .int .i64 (bi : Int), .int .u64 ((0 : Nat) : Int), .bool false, .int .i64 (so : Int), .bool false, .bool false, .bool false, nilV, nilV, nilV] 30) * (own 27 1 (.slice (some ⟨gv, 0, none⟩) 6 co) 6 (xl.map u64v) * (blk br (.cells #[.int .i64 0, .int .i64 0, .bool false, .int .i64 0, .int .i64 0, .int .i64 0, .int .i64 0, .int .u64 0, .bool false, .int .i64 0, .bool false, .bool false, .bool false, nilV, nilV, nilV] 30) * (own 3 1 (.slice (some ⟨bt, 0, none⟩) 6 6) 6 (tgs.map fun (n : Nat) => Value.int .i64 (n : Int)) * (own 27 1 (.slice (some ⟨bl, 0, none⟩) 6 6) 6 (lss.map fun (n : Nat) => Value.int .u64 (n : Int)) * (own 27 1 (.slice (some ⟨bm, 0, none⟩) 6 6) 6 (mss.map fun (n : Nat) => Value.int .u64 (n : Int)) * F))))) by ac_rfl)).own_ne
      have hgv2 : ¬ bp = gv := fun h => hgv h.symm
      have hv : ∀ i x, i < 6 → xv i = x → ∃ b off, (some ⟨gv, 0, none⟩ : Option Addr) = some ⟨b, off, none⟩ ∧ wr.cell? ⟨b, off + i, none⟩ = some (.int .u64 (x : Int)) := fun i x hi hx => by
        obtain ⟨b, off, e, hc⟩ := hst.right.right.reads.at_ hi
        refine ⟨b, off, e, ?_⟩
        rw [hc, List.getElem?_map, HXG.out i hi, hx]; rfl
      obtain ⟨x0, hx0⟩ : ∃ x, xv 0 = x := ⟨_, rfl⟩
      obtain ⟨x1, hx1⟩ : ∃ x, xv 1 = x := ⟨_, rfl⟩
      obtain ⟨x2, hx2⟩ : ∃ x, xv 2 = x := ⟨_, rfl⟩
      obtain ⟨x3, hx3⟩ : ∃ x, xv 3 = x := ⟨_, rfl⟩
      obtain ⟨x4, hx4⟩ : ∃ x, xv 4 = x := ⟨_, rfl⟩
      obtain ⟨x5, hx5⟩ : ∃ x, xv 5 = x := ⟨_, rfl⟩
      obtain ⟨vb, vo, hb0, e0⟩ := hv 0 x0 (by omega) hx0
      cases hb0
      obtain ⟨vb1, vo1, hb1, e1⟩ := hv 1 x1 (by omega) hx1
      cases hb1
      obtain ⟨vb2, vo2, hb2, e2⟩ := hv 2 x2 (by omega) hx2
      cases hb2
      obtain ⟨vb3, vo3, hb3, e3⟩ := hv 3 x3 (by omega) hx3
      cases hb3
      obtain ⟨vb4, vo4, hb4, e4⟩ := hv 4 x4 (by omega) hx4
      cases hb4
      obtain ⟨vb5, vo5, hb5, e5⟩ := hv 5 x5 (by omega) hx5
      cases hb5
      simp only [Nat.zero_add] at e0 e1 e2 e3 e4 e5
      have x4c : x4 < 18446744073709551616 := hx4 ▸ x4b
      have x5c : x5 < 18446744073709551616 := hx5 ▸ x5b
      have her : er = faxD x4 x5 (so : Int) (per : Int) (bi : Int) (x3 == 2) := by
        rw [HER.out, ← hx3, ← hx4, ← hx5]
        exact how_last xe rfl rfl HZ.out (if_neg (H3.out (by omega)))
      have hph : er = 0 → PH = ⟨⟨0, 0, false, 0, 0⟩, per, bi, x0, ((x2 : Int) == 2), (so : Nat), ((x3 : Int) == 2), ((x1 : Int) == 2), ((so : Int) == 3 && (x4 : Int) % 2 == 1), [], [], []⟩ := fun _ => by
        have e1 : ((x2 : Int) == 2) = (x2 == 2) := cast_beq x2 2
        have e2 : ((x3 : Int) == 2) = (x3 == 2) := cast_beq x3 2
        have e3 : ((x1 : Int) == 2) = (x1 == 2) := cast_beq x1 2
        have e4 : ((so : Int) == 3) = (so == 3) := cast_beq so 3
        have e5 : ((x4 : Int) % 2 == 1) = (x4 % 2 == 1) := by rw [Bool.eq_iff_iff]; simp; omega
        rw [HPH.out, hx0, hx1, hx2, hx3, hx4, e1, e2, e3, e4, e5]
      have HER2 := Lib.hid her; have HPH2 := Lib.hid hph
      have HX45 := Lib.hid (And.intro hx4 hx5)
      clear her hph hx0 hx1 hx2 hx3 hx4 hx5 hv
      have c7 := hst.cell 7 rfl
      have f7 := hst.free 7
      have c11 := hst.cell 11 rfl
      have f11 := hst.free 11
      have c8 := hst.cell 8 rfl
      have f8 := hst.free 8
      have c10 := hst.cell 10 rfl
      have f10 := hst.free 10
      have HS2 := Lib.hid (((((hst.drew.set 7 (.int .u64 (x0 : Int))).set 11 (.bool ((x1 : Int) == 2))).set 8 (.bool ((x2 : Int) == 2))).set 10 (.bool ((x3 : Int) == 2))))
      clear hst
      go_upto_region 20 with (fail)
      have HS3 : Hid (St w0 _ (blk bp (.cells #[.int .i64 0, .int .i64 0, .bool false, .int .i64 0, .int .i64 0, .int .i64 (per : Int), .int .i64 (bi : Int), .int .u64 (x0 : Int), .bool ((x2 : Int) == 2), .int .i64 (so : Int), .bool ((x3 : Int) == 2), .bool ((x1 : Int) == 2), .bool false, nilV, nilV, nilV] 30) * (blk br (.cells #[.int .i64 0, .int .i64 0, .bool false, .int .i64 0, .int .i64 0, .int .i64 0, .int .i64 0, .int .u64 0, .bool false, .int .i64 0, .bool false, .bool false, .bool false, nilV, nilV, nilV] 30) * (own 27 1 (.slice (some ⟨gv, 0, none⟩) 6 co) 6 (xl.map u64v) * (own 3 1 (.slice (some ⟨bt, 0, none⟩) 6 6) 6 (tgs.map fun (n : Nat) => Value.int .i64 (n : Int)) * (own 27 1 (.slice (some ⟨bl, 0, none⟩) 6 6) 6 (lss.map fun (n : Nat) => Value.int .u64 (n : Int)) * (own 27 1 (.slice (some ⟨bm, 0, none⟩) 6 6) 6 (mss.map fun (n : Nat) => Value.int .u64 (n : Int)) * F))))))) := HS2
      clear HS2
      go_cut [] from 79 to 97 (fun wx => St w0 wx (blk bp (.cells #[.int .i64 0, .int .i64 0, .bool false, .int .i64 0, .int .i64 0, .int .i64 (per : Int), .int .i64 (bi : Int), .int .u64 (x0 : Int), .bool ((x2 : Int) == 2), .int .i64 (so : Int), .bool ((x3 : Int) == 2), .bool ((x1 : Int) == 2), .bool false, nilV, nilV, nilV] 30) * (blk br (.cells #[.int .i64 0, .int .i64 0, .bool false, .int .i64 0, .int .i64 0, .int .i64 0, .int .i64 0, .int .u64 0, .bool false, .int .i64 0, .bool false, .bool false, .bool false, nilV, nilV, nilV] 30) * (own 27 1 (.slice (some ⟨gv, 0, none⟩) 6 co) 6 (xl.map u64v) * (own 3 1 (.slice (some ⟨bt, 0, none⟩) 6 6) 6 (tgs.map fun (n : Nat) => Value.int .i64 (n : Int)) * (own 27 1 (.slice (some ⟨bl, 0, none⟩) 6 6) 6 (lss.map fun (n : Nat) => Value.int .u64 (n : Int)) * (own 27 1 (.slice (some ⟨bm, 0, none⟩) 6 6) 6 (mss.map fun (n : Nat) => Value.int .u64 (n : Int)) * F)))))))
      case first =>
        go_region
        all_goals
          go_wp2_with fail
          go_meet
          exact HS3.out
      clear c7 f7 c8 f8 c10 f10 c11 f11 e0 e1 e2 e3 e4 e5 HS3 HZ H3
      have HS := Lib.hid hcut
      clear hcut
      have hv : ∀ i x, i < 6 → xv i = x → ∃ b off, (some ⟨gv, 0, none⟩ : Option Addr) = some ⟨b, off, none⟩ ∧ wc.cell? ⟨b, off + i, none⟩ = some (.int .u64 (x : Int)) := fun i x hi hx => by
        obtain ⟨b, off, e, hc⟩ := HS.out.right.right.reads.at_ hi
        refine ⟨b, off, e, ?_⟩
        rw [hc, List.getElem?_map, HXG.out i hi, hx]; rfl
      have hx4 := HX45.out.1; have hx5 := HX45.out.2
      obtain ⟨vb4, vo4, hb4, e4⟩ := hv 4 x4 (by omega) hx4
      cases hb4
      obtain ⟨vb5, vo5, hb5, e5⟩ := hv 5 x5 (by omega) hx5
      cases hb5
      simp only [Nat.zero_add] at e4 e5
      clear hv hx4 hx5
      obtain ⟨pd, hpd⟩ : ∃ pd, pd = ((x3 : Int) == 2) := ⟨_, rfl⟩
      rw [← hpd] at HS HPH2
      have hpd2 : (x3 == 2) = pd := by rw [hpd]; exact (cast_beq x3 2).symm
      rw [hpd2] at HER2
      clear hpd hpd2 HX45 HXG HXT
      have p5 := HS.out.cell 5 rfl
      have p6 := HS.out.cell 6 rfl
      have p10 := HS.out.cell 10 rfl
      have p12 := HS.out.cell 12 rfl
      have g12 := HS.out.free 12
      by_cases s3 : so = 3
      · subst s3
        by_cases q : x4 / 2 % 2 = 1
        · have qI : (x4 : Int) / 2 % 2 = 1 := by omega
          obtain rfl : er = 9 := by rw [HER2.out]; unfold faxD; first | (simp [*]; done) | (simp [faxN, predB, *]; done)
          go_upto_region 22 with (fail)
          have HB := Lib.hid (HS.out.perm (star_left_comm _ _ _))
          have HR := Lib.hid (HB.out.setRow #[.int .i64 0, .int .i64 0, .bool false, .int .i64 0, .int .i64 0, .int .i64 (per : Int), .int .i64 (bi : Int), .int .u64 (x0 : Int), .bool ((x2 : Int) == 2), .int .i64 (((3 : Nat) : Int) : Int), .bool pd, .bool ((x1 : Int) == 2), .bool false, nilV, nilV, nilV])
          go_wp2_with (first | (refine wpList_load_blk rfl 30 _ rfl HS.out rfl Try.underlying30 rfl (by show _ = some 16; kernel_rfl) ?_) | (refine wpList_store_blk rfl 30 _ _ rfl HB.out rfl rfl (by show _ = some 16; kernel_rfl) rfl rfl ?_))
          refine bodyPost_ret2c rfl rfl HR.out.at_ Try.underlying30 rfl (by show _ = some 16; kernel_rfl) rfl ?_
          refine ⟨⟨⟨0, 0, false, 0, 0⟩, per, bi, x0, ((x2 : Int) == 2), (3 : Nat), pd, ((x1 : Int) == 2), false, [], [], []⟩, rfl, fun h0 => absurd h0 (by first | decide | assumption), (by first | exact HR.out.right.right | exact HR.out.right.right.right.right.right.right | exact HR.out.right.right.right.right.right)⟩
        have qI : (x4 : Int) / 2 % 2 = 0 := by omega
        by_cases p1 : per = 1
        rotate_left
        · have p1I : ¬ (per : Int) = 1 := by omega
          obtain rfl : er = 3 := by rw [HER2.out]; unfold faxD; first | (simp [*]; done) | (simp [faxN, predB, *]; done)
          go_upto_region 26 with (fail)
          have HB := Lib.hid (HS.out.perm (star_left_comm _ _ _))
          have HR := Lib.hid (HB.out.setRow #[.int .i64 0, .int .i64 0, .bool false, .int .i64 0, .int .i64 0, .int .i64 (per : Int), .int .i64 (bi : Int), .int .u64 (x0 : Int), .bool ((x2 : Int) == 2), .int .i64 (((3 : Nat) : Int) : Int), .bool pd, .bool ((x1 : Int) == 2), .bool false, nilV, nilV, nilV])
          go_wp2_with (first | (refine wpList_load_blk rfl 30 _ rfl HS.out rfl Try.underlying30 rfl (by show _ = some 16; kernel_rfl) ?_) | (refine wpList_store_blk rfl 30 _ _ rfl HB.out rfl rfl (by show _ = some 16; kernel_rfl) rfl rfl ?_))
          refine bodyPost_ret2c rfl rfl HR.out.at_ Try.underlying30 rfl (by show _ = some 16; kernel_rfl) rfl ?_
          refine ⟨⟨⟨0, 0, false, 0, 0⟩, per, bi, x0, ((x2 : Int) == 2), (3 : Nat), pd, ((x1 : Int) == 2), false, [], [], []⟩, rfl, fun h0 => absurd h0 (by first | decide | assumption), (by first | exact HR.out.right.right | exact HR.out.right.right.right.right.right.right | exact HR.out.right.right.right.right.right)⟩
        subst p1
        by_cases b1 : bi = 1
        rotate_left
        · have b1I : ¬ (bi : Int) = 1 := by omega
          obtain rfl : er = 3 := by rw [HER2.out]; unfold faxD; first | (simp [*]; done) | (simp [faxN, predB, *]; done)
          go_upto_region 26 with (fail)
          have HB := Lib.hid (HS.out.perm (star_left_comm _ _ _))
          have HR := Lib.hid (HB.out.setRow #[.int .i64 0, .int .i64 0, .bool false, .int .i64 0, .int .i64 0, .int .i64 (((1 : Nat)) : Int), .int .i64 (bi : Int), .int .u64 (x0 : Int), .bool ((x2 : Int) == 2), .int .i64 (((3 : Nat) : Int) : Int), .bool pd, .bool ((x1 : Int) == 2), .bool false, nilV, nilV, nilV])
          go_wp2_with (first | (refine wpList_load_blk rfl 30 _ rfl HS.out rfl Try.underlying30 rfl (by show _ = some 16; kernel_rfl) ?_) | (refine wpList_store_blk rfl 30 _ _ rfl HB.out rfl rfl (by show _ = some 16; kernel_rfl) rfl rfl ?_))
          refine bodyPost_ret2c rfl rfl HR.out.at_ Try.underlying30 rfl (by show _ = some 16; kernel_rfl) rfl ?_
          refine ⟨⟨⟨0, 0, false, 0, 0⟩, (1 : Nat), bi, x0, ((x2 : Int) == 2), (3 : Nat), pd, ((x1 : Int) == 2), false, [], [], []⟩, rfl, fun h0 => absurd h0 (by first | decide | assumption), (by first | exact HR.out.right.right | exact HR.out.right.right.right.right.right.right | exact HR.out.right.right.right.right.right)⟩
        subst b1
        cases pd
        rotate_left
        · skip
          obtain rfl : er = 3 := by rw [HER2.out]; unfold faxD; first | (simp [*]; done) | (simp [faxN, predB, *]; done)
          go_upto_region 26 with (fail)
          have HB := Lib.hid (HS.out.perm (star_left_comm _ _ _))
          have HR := Lib.hid (HB.out.setRow #[.int .i64 0, .int .i64 0, .bool false, .int .i64 0, .int .i64 0, .int .i64 (((1 : Nat)) : Int), .int .i64 (((1 : Nat)) : Int), .int .u64 (x0 : Int), .bool ((x2 : Int) == 2), .int .i64 (((3 : Nat) : Int) : Int), .bool true, .bool ((x1 : Int) == 2), .bool false, nilV, nilV, nilV])
          go_wp2_with (first | (refine wpList_load_blk rfl 30 _ rfl HS.out rfl Try.underlying30 rfl (by show _ = some 16; kernel_rfl) ?_) | (refine wpList_store_blk rfl 30 _ _ rfl HB.out rfl rfl (by show _ = some 16; kernel_rfl) rfl rfl ?_))
          refine bodyPost_ret2c rfl rfl HR.out.at_ Try.underlying30 rfl (by show _ = some 16; kernel_rfl) rfl ?_
          refine ⟨⟨⟨0, 0, false, 0, 0⟩, (1 : Nat), (1 : Nat), x0, ((x2 : Int) == 2), (3 : Nat), true, ((x1 : Int) == 2), false, [], [], []⟩, rfl, fun h0 => absurd h0 (by first | decide | assumption), (by first | exact HR.out.right.right | exact HR.out.right.right.right.right.right.right | exact HR.out.right.right.right.right.right)⟩
        obtain rfl : er = 0 := by rw [HER2.out]; unfold faxD; first | (simp [*]; done) | (simp [faxN, predB, *]; done)
        have HPF := Lib.hid (HPH2.out rfl)
        have HS2 := Lib.hid (HS.out.set 12 (.bool ((x4 : Int) % 2 == 1)))
        clear HPH2
        go_upto_region 28 with (fail)
        clear p5 p6 p10 p12 g12 e4 e5
        have HS9 : Hid (St w0 _ (blk bp (.cells #[.int .i64 0, .int .i64 0, .bool false, .int .i64 0, .int .i64 0, .int .i64 (((1 : Nat)) : Int), .int .i64 (((1 : Nat)) : Int), .int .u64 (x0 : Int), .bool ((x2 : Int) == 2), .int .i64 (((3 : Nat) : Int) : Int), .bool false, .bool ((x1 : Int) == 2), .bool ((x4 : Int) % 2 == 1), nilV, nilV, nilV] 30) * (blk br (.cells #[.int .i64 0, .int .i64 0, .bool false, .int .i64 0, .int .i64 0, .int .i64 0, .int .i64 0, .int .u64 0, .bool false, .int .i64 0, .bool false, .bool false, .bool false, nilV, nilV, nilV] 30) * (own 27 1 (.slice (some ⟨gv, 0, none⟩) 6 co) 6 (xl.map u64v) * (own 3 1 (.slice (some ⟨bt, 0, none⟩) 6 6) 6 (tgs.map fun (n : Nat) => Value.int .i64 (n : Int)) * (own 27 1 (.slice (some ⟨bl, 0, none⟩) 6 6) 6 (lss.map fun (n : Nat) => Value.int .u64 (n : Int)) * (own 27 1 (.slice (some ⟨bm, 0, none⟩) 6 6) 6 (mss.map fun (n : Nat) => Value.int .u64 (n : Int)) * F))))))) := HS2
        clear HS HS2
        have HS := HS9
        clear HS9
        generalize World.setCell _ _ _ = wz at *
        have HB := Lib.hid (HS.out.perm (star_left_comm _ _ _))
        have HR := Lib.hid (HB.out.setRow #[.int .i64 0, .int .i64 0, .bool false, .int .i64 0, .int .i64 0, .int .i64 (((1 : Nat)) : Int), .int .i64 (((1 : Nat)) : Int), .int .u64 (x0 : Int), .bool ((x2 : Int) == 2), .int .i64 (((3 : Nat) : Int) : Int), .bool false, .bool ((x1 : Int) == 2), .bool ((x4 : Int) % 2 == 1), nilV, nilV, nilV])
        go_wp2_with (first | (refine wpList_load_blk rfl 30 _ rfl HS.out rfl Try.underlying30 rfl (by show _ = some 16; kernel_rfl) ?_) | (refine wpList_store_blk rfl 30 _ _ rfl HB.out rfl rfl (by show _ = some 16; kernel_rfl) rfl rfl ?_))
        refine bodyPost_ret2c rfl rfl HR.out.at_ Try.underlying30 rfl (by show _ = some 16; kernel_rfl) rfl ?_
        refine ⟨⟨⟨0, 0, false, 0, 0⟩, (1 : Nat), (1 : Nat), x0, ((x2 : Int) == 2), (3 : Nat), false, ((x1 : Int) == 2), ((x4 : Int) % 2 == 1), [], [], []⟩, rfl, fun _ => (by rw [HPF.out]; first | rfl | simp [*]), (by first | exact HR.out.right.right | exact HR.out.right.right.right.right.right.right | exact HR.out.right.right.right.right.right)⟩
      have s3I : ¬ (so : Int) = 3 := by omega
      by_cases s4 : so = 4
      · subst s4
        by_cases q : x5 / 2 % 2 = 1
        · have qI : (x5 : Int) / 2 % 2 = 1 := by omega
          obtain rfl : er = 9 := by rw [HER2.out]; unfold faxD; first | (simp [*]; done) | (simp [faxN, predB, *]; done)
          go_upto_region 22 with (fail)
          have HB := Lib.hid (HS.out.perm (star_left_comm _ _ _))
          have HR := Lib.hid (HB.out.setRow #[.int .i64 0, .int .i64 0, .bool false, .int .i64 0, .int .i64 0, .int .i64 (per : Int), .int .i64 (bi : Int), .int .u64 (x0 : Int), .bool ((x2 : Int) == 2), .int .i64 (((4 : Nat) : Int) : Int), .bool pd, .bool ((x1 : Int) == 2), .bool false, nilV, nilV, nilV])
          go_wp2_with (first | (refine wpList_load_blk rfl 30 _ rfl HS.out rfl Try.underlying30 rfl (by show _ = some 16; kernel_rfl) ?_) | (refine wpList_store_blk rfl 30 _ _ rfl HB.out rfl rfl (by show _ = some 16; kernel_rfl) rfl rfl ?_))
          refine bodyPost_ret2c rfl rfl HR.out.at_ Try.underlying30 rfl (by show _ = some 16; kernel_rfl) rfl ?_
          refine ⟨⟨⟨0, 0, false, 0, 0⟩, per, bi, x0, ((x2 : Int) == 2), (4 : Nat), pd, ((x1 : Int) == 2), false, [], [], []⟩, rfl, fun h0 => absurd h0 (by first | decide | assumption), (by first | exact HR.out.right.right | exact HR.out.right.right.right.right.right.right | exact HR.out.right.right.right.right.right)⟩
        have qI : (x5 : Int) / 2 % 2 = 0 := by omega
        by_cases p1 : per = 1
        rotate_left
        · have p1I : ¬ (per : Int) = 1 := by omega
          obtain rfl : er = 3 := by rw [HER2.out]; unfold faxD; first | (simp [*]; done) | (simp [faxN, predB, *]; done)
          go_upto_region 26 with (fail)
          have HB := Lib.hid (HS.out.perm (star_left_comm _ _ _))
          have HR := Lib.hid (HB.out.setRow #[.int .i64 0, .int .i64 0, .bool false, .int .i64 0, .int .i64 0, .int .i64 (per : Int), .int .i64 (bi : Int), .int .u64 (x0 : Int), .bool ((x2 : Int) == 2), .int .i64 (((4 : Nat) : Int) : Int), .bool pd, .bool ((x1 : Int) == 2), .bool false, nilV, nilV, nilV])
          go_wp2_with (first | (refine wpList_load_blk rfl 30 _ rfl HS.out rfl Try.underlying30 rfl (by show _ = some 16; kernel_rfl) ?_) | (refine wpList_store_blk rfl 30 _ _ rfl HB.out rfl rfl (by show _ = some 16; kernel_rfl) rfl rfl ?_))
          refine bodyPost_ret2c rfl rfl HR.out.at_ Try.underlying30 rfl (by show _ = some 16; kernel_rfl) rfl ?_
          refine ⟨⟨⟨0, 0, false, 0, 0⟩, per, bi, x0, ((x2 : Int) == 2), (4 : Nat), pd, ((x1 : Int) == 2), false, [], [], []⟩, rfl, fun h0 => absurd h0 (by first | decide | assumption), (by first | exact HR.out.right.right | exact HR.out.right.right.right.right.right.right | exact HR.out.right.right.right.right.right)⟩
        subst p1
        by_cases b1 : bi = 1
        rotate_left
        · have b1I : ¬ (bi : Int) = 1 := by omega
          obtain rfl : er = 3 := by rw [HER2.out]; unfold faxD; first | (simp [*]; done) | (simp [faxN, predB, *]; done)
          go_upto_region 26 with (fail)
          have HB := Lib.hid (HS.out.perm (star_left_comm _ _ _))
          have HR := Lib.hid (HB.out.setRow #[.int .i64 0, .int .i64 0, .bool false, .int .i64 0, .int .i64 0, .int .i64 (((1 : Nat)) : Int), .int .i64 (bi : Int), .int .u64 (x0 : Int), .bool ((x2 : Int) == 2), .int .i64 (((4 : Nat) : Int) : Int), .bool pd, .bool ((x1 : Int) == 2), .bool false, nilV, nilV, nilV])
          go_wp2_with (first | (refine wpList_load_blk rfl 30 _ rfl HS.out rfl Try.underlying30 rfl (by show _ = some 16; kernel_rfl) ?_) | (refine wpList_store_blk rfl 30 _ _ rfl HB.out rfl rfl (by show _ = some 16; kernel_rfl) rfl rfl ?_))
          refine bodyPost_ret2c rfl rfl HR.out.at_ Try.underlying30 rfl (by show _ = some 16; kernel_rfl) rfl ?_
          refine ⟨⟨⟨0, 0, false, 0, 0⟩, (1 : Nat), bi, x0, ((x2 : Int) == 2), (4 : Nat), pd, ((x1 : Int) == 2), false, [], [], []⟩, rfl, fun h0 => absurd h0 (by first | decide | assumption), (by first | exact HR.out.right.right | exact HR.out.right.right.right.right.right.right | exact HR.out.right.right.right.right.right)⟩
        subst b1
        cases pd
        rotate_left
        · skip
          obtain rfl : er = 3 := by rw [HER2.out]; unfold faxD; first | (simp [*]; done) | (simp [faxN, predB, *]; done)
          go_upto_region 26 with (fail)
          have HB := Lib.hid (HS.out.perm (star_left_comm _ _ _))
          have HR := Lib.hid (HB.out.setRow #[.int .i64 0, .int .i64 0, .bool false, .int .i64 0, .int .i64 0, .int .i64 (((1 : Nat)) : Int), .int .i64 (((1 : Nat)) : Int), .int .u64 (x0 : Int), .bool ((x2 : Int) == 2), .int .i64 (((4 : Nat) : Int) : Int), .bool true, .bool ((x1 : Int) == 2), .bool false, nilV, nilV, nilV])
          go_wp2_with (first | (refine wpList_load_blk rfl 30 _ rfl HS.out rfl Try.underlying30 rfl (by show _ = some 16; kernel_rfl) ?_) | (refine wpList_store_blk rfl 30 _ _ rfl HB.out rfl rfl (by show _ = some 16; kernel_rfl) rfl rfl ?_))
          refine bodyPost_ret2c rfl rfl HR.out.at_ Try.underlying30 rfl (by show _ = some 16; kernel_rfl) rfl ?_
          refine ⟨⟨⟨0, 0, false, 0, 0⟩, (1 : Nat), (1 : Nat), x0, ((x2 : Int) == 2), (4 : Nat), true, ((x1 : Int) == 2), false, [], [], []⟩, rfl, fun h0 => absurd h0 (by first | decide | assumption), (by first | exact HR.out.right.right | exact HR.out.right.right.right.right.right.right | exact HR.out.right.right.right.right.right)⟩
        obtain rfl : er = 0 := by rw [HER2.out]; unfold faxD; first | (simp [*]; done) | (simp [faxN, predB, *]; done)
        have HPF := Lib.hid (HPH2.out rfl)
        have HS2 := Lib.hid (HS.out.set 12 (.bool false))
        clear HPH2
        go_upto_region 28 with (fail)
        clear p5 p6 p10 p12 g12 e4 e5
        have HS9 : Hid (St w0 _ (blk bp (.cells #[.int .i64 0, .int .i64 0, .bool false, .int .i64 0, .int .i64 0, .int .i64 (((1 : Nat)) : Int), .int .i64 (((1 : Nat)) : Int), .int .u64 (x0 : Int), .bool ((x2 : Int) == 2), .int .i64 (((4 : Nat) : Int) : Int), .bool false, .bool ((x1 : Int) == 2), .bool false, nilV, nilV, nilV] 30) * (blk br (.cells #[.int .i64 0, .int .i64 0, .bool false, .int .i64 0, .int .i64 0, .int .i64 0, .int .i64 0, .int .u64 0, .bool false, .int .i64 0, .bool false, .bool false, .bool false, nilV, nilV, nilV] 30) * (own 27 1 (.slice (some ⟨gv, 0, none⟩) 6 co) 6 (xl.map u64v) * (own 3 1 (.slice (some ⟨bt, 0, none⟩) 6 6) 6 (tgs.map fun (n : Nat) => Value.int .i64 (n : Int)) * (own 27 1 (.slice (some ⟨bl, 0, none⟩) 6 6) 6 (lss.map fun (n : Nat) => Value.int .u64 (n : Int)) * (own 27 1 (.slice (some ⟨bm, 0, none⟩) 6 6) 6 (mss.map fun (n : Nat) => Value.int .u64 (n : Int)) * F))))))) := HS2
        clear HS HS2
        have HS := HS9
        clear HS9
        generalize World.setCell _ _ _ = wz at *
        have HB := Lib.hid (HS.out.perm (star_left_comm _ _ _))
        have HR := Lib.hid (HB.out.setRow #[.int .i64 0, .int .i64 0, .bool false, .int .i64 0, .int .i64 0, .int .i64 (((1 : Nat)) : Int), .int .i64 (((1 : Nat)) : Int), .int .u64 (x0 : Int), .bool ((x2 : Int) == 2), .int .i64 (((4 : Nat) : Int) : Int), .bool false, .bool ((x1 : Int) == 2), .bool false, nilV, nilV, nilV])
        go_wp2_with (first | (refine wpList_load_blk rfl 30 _ rfl HS.out rfl Try.underlying30 rfl (by show _ = some 16; kernel_rfl) ?_) | (refine wpList_store_blk rfl 30 _ _ rfl HB.out rfl rfl (by show _ = some 16; kernel_rfl) rfl rfl ?_))
        refine bodyPost_ret2c rfl rfl HR.out.at_ Try.underlying30 rfl (by show _ = some 16; kernel_rfl) rfl ?_
        refine ⟨⟨⟨0, 0, false, 0, 0⟩, (1 : Nat), (1 : Nat), x0, ((x2 : Int) == 2), (4 : Nat), false, ((x1 : Int) == 2), false, [], [], []⟩, rfl, fun _ => (by rw [HPF.out]; first | rfl | simp [*]), (by first | exact HR.out.right.right | exact HR.out.right.right.right.right.right.right | exact HR.out.right.right.right.right.right)⟩
      have s4I : ¬ (so : Int) = 4 := by omega
      by_cases s2 : so = 2
      · subst s2
        by_cases p1 : per = 1
        rotate_left
        · have p1I : ¬ (per : Int) = 1 := by omega
          obtain rfl : er = 3 := by rw [HER2.out]; unfold faxD; first | (simp [*]; done) | (simp [faxN, predB, *]; done)
          go_upto_region 26 with (fail)
          have HB := Lib.hid (HS.out.perm (star_left_comm _ _ _))
          have HR := Lib.hid (HB.out.setRow #[.int .i64 0, .int .i64 0, .bool false, .int .i64 0, .int .i64 0, .int .i64 (per : Int), .int .i64 (bi : Int), .int .u64 (x0 : Int), .bool ((x2 : Int) == 2), .int .i64 (((2 : Nat) : Int) : Int), .bool pd, .bool ((x1 : Int) == 2), .bool false, nilV, nilV, nilV])
          go_wp2_with (first | (refine wpList_load_blk rfl 30 _ rfl HS.out rfl Try.underlying30 rfl (by show _ = some 16; kernel_rfl) ?_) | (refine wpList_store_blk rfl 30 _ _ rfl HB.out rfl rfl (by show _ = some 16; kernel_rfl) rfl rfl ?_))
          refine bodyPost_ret2c rfl rfl HR.out.at_ Try.underlying30 rfl (by show _ = some 16; kernel_rfl) rfl ?_
          refine ⟨⟨⟨0, 0, false, 0, 0⟩, per, bi, x0, ((x2 : Int) == 2), (2 : Nat), pd, ((x1 : Int) == 2), false, [], [], []⟩, rfl, fun h0 => absurd h0 (by first | decide | assumption), (by first | exact HR.out.right.right | exact HR.out.right.right.right.right.right.right | exact HR.out.right.right.right.right.right)⟩
        subst p1
        by_cases b1 : bi = 1
        rotate_left
        · have b1I : ¬ (bi : Int) = 1 := by omega
          obtain rfl : er = 3 := by rw [HER2.out]; unfold faxD; first | (simp [*]; done) | (simp [faxN, predB, *]; done)
          go_upto_region 26 with (fail)
          have HB := Lib.hid (HS.out.perm (star_left_comm _ _ _))
          have HR := Lib.hid (HB.out.setRow #[.int .i64 0, .int .i64 0, .bool false, .int .i64 0, .int .i64 0, .int .i64 (((1 : Nat)) : Int), .int .i64 (bi : Int), .int .u64 (x0 : Int), .bool ((x2 : Int) == 2), .int .i64 (((2 : Nat) : Int) : Int), .bool pd, .bool ((x1 : Int) == 2), .bool false, nilV, nilV, nilV])
          go_wp2_with (first | (refine wpList_load_blk rfl 30 _ rfl HS.out rfl Try.underlying30 rfl (by show _ = some 16; kernel_rfl) ?_) | (refine wpList_store_blk rfl 30 _ _ rfl HB.out rfl rfl (by show _ = some 16; kernel_rfl) rfl rfl ?_))
          refine bodyPost_ret2c rfl rfl HR.out.at_ Try.underlying30 rfl (by show _ = some 16; kernel_rfl) rfl ?_
          refine ⟨⟨⟨0, 0, false, 0, 0⟩, (1 : Nat), bi, x0, ((x2 : Int) == 2), (2 : Nat), pd, ((x1 : Int) == 2), false, [], [], []⟩, rfl, fun h0 => absurd h0 (by first | decide | assumption), (by first | exact HR.out.right.right | exact HR.out.right.right.right.right.right.right | exact HR.out.right.right.right.right.right)⟩
        subst b1
        cases pd
        rotate_left
        · skip
          obtain rfl : er = 3 := by rw [HER2.out]; unfold faxD; first | (simp [*]; done) | (simp [faxN, predB, *]; done)
          go_upto_region 26 with (fail)
          have HB := Lib.hid (HS.out.perm (star_left_comm _ _ _))
          have HR := Lib.hid (HB.out.setRow #[.int .i64 0, .int .i64 0, .bool false, .int .i64 0, .int .i64 0, .int .i64 (((1 : Nat)) : Int), .int .i64 (((1 : Nat)) : Int), .int .u64 (x0 : Int), .bool ((x2 : Int) == 2), .int .i64 (((2 : Nat) : Int) : Int), .bool true, .bool ((x1 : Int) == 2), .bool false, nilV, nilV, nilV])
          go_wp2_with (first | (refine wpList_load_blk rfl 30 _ rfl HS.out rfl Try.underlying30 rfl (by show _ = some 16; kernel_rfl) ?_) | (refine wpList_store_blk rfl 30 _ _ rfl HB.out rfl rfl (by show _ = some 16; kernel_rfl) rfl rfl ?_))
          refine bodyPost_ret2c rfl rfl HR.out.at_ Try.underlying30 rfl (by show _ = some 16; kernel_rfl) rfl ?_
          refine ⟨⟨⟨0, 0, false, 0, 0⟩, (1 : Nat), (1 : Nat), x0, ((x2 : Int) == 2), (2 : Nat), true, ((x1 : Int) == 2), false, [], [], []⟩, rfl, fun h0 => absurd h0 (by first | decide | assumption), (by first | exact HR.out.right.right | exact HR.out.right.right.right.right.right.right | exact HR.out.right.right.right.right.right)⟩
        obtain rfl : er = 0 := by rw [HER2.out]; unfold faxD; first | (simp [*]; done) | (simp [faxN, predB, *]; done)
        have HPF := Lib.hid (HPH2.out rfl)
        have HS2 := Lib.hid (HS.out.set 12 (.bool false))
        clear HPH2
        go_upto_region 28 with (fail)
        clear p5 p6 p10 p12 g12 e4 e5
        have HS9 : Hid (St w0 _ (blk bp (.cells #[.int .i64 0, .int .i64 0, .bool false, .int .i64 0, .int .i64 0, .int .i64 (((1 : Nat)) : Int), .int .i64 (((1 : Nat)) : Int), .int .u64 (x0 : Int), .bool ((x2 : Int) == 2), .int .i64 (((2 : Nat) : Int) : Int), .bool false, .bool ((x1 : Int) == 2), .bool false, nilV, nilV, nilV] 30) * (blk br (.cells #[.int .i64 0, .int .i64 0, .bool false, .int .i64 0, .int .i64 0, .int .i64 0, .int .i64 0, .int .u64 0, .bool false, .int .i64 0, .bool false, .bool false, .bool false, nilV, nilV, nilV] 30) * (own 27 1 (.slice (some ⟨gv, 0, none⟩) 6 co) 6 (xl.map u64v) * (own 3 1 (.slice (some ⟨bt, 0, none⟩) 6 6) 6 (tgs.map fun (n : Nat) => Value.int .i64 (n : Int)) * (own 27 1 (.slice (some ⟨bl, 0, none⟩) 6 6) 6 (lss.map fun (n : Nat) => Value.int .u64 (n : Int)) * (own 27 1 (.slice (some ⟨bm, 0, none⟩) 6 6) 6 (mss.map fun (n : Nat) => Value.int .u64 (n : Int)) * F))))))) := HS2
        clear HS HS2
        have HS := HS9
        clear HS9
        generalize World.setCell _ _ _ = wz at *
        have HB := Lib.hid (HS.out.perm (star_left_comm _ _ _))
        have HR := Lib.hid (HB.out.setRow #[.int .i64 0, .int .i64 0, .bool false, .int .i64 0, .int .i64 0, .int .i64 (((1 : Nat)) : Int), .int .i64 (((1 : Nat)) : Int), .int .u64 (x0 : Int), .bool ((x2 : Int) == 2), .int .i64 (((2 : Nat) : Int) : Int), .bool false, .bool ((x1 : Int) == 2), .bool false, nilV, nilV, nilV])
        go_wp2_with (first | (refine wpList_load_blk rfl 30 _ rfl HS.out rfl Try.underlying30 rfl (by show _ = some 16; kernel_rfl) ?_) | (refine wpList_store_blk rfl 30 _ _ rfl HB.out rfl rfl (by show _ = some 16; kernel_rfl) rfl rfl ?_))
        refine bodyPost_ret2c rfl rfl HR.out.at_ Try.underlying30 rfl (by show _ = some 16; kernel_rfl) rfl ?_
        refine ⟨⟨⟨0, 0, false, 0, 0⟩, (1 : Nat), (1 : Nat), x0, ((x2 : Int) == 2), (2 : Nat), false, ((x1 : Int) == 2), false, [], [], []⟩, rfl, fun _ => (by rw [HPF.out]; first | rfl | simp [*]), (by first | exact HR.out.right.right | exact HR.out.right.right.right.right.right.right | exact HR.out.right.right.right.right.right)⟩
      have s2I : ¬ (so : Int) = 2 := by omega
      obtain ⟨fb, hfb⟩ : ∃ fb, fb = predB so bi := ⟨_, rfl⟩
      have Hfb := Lib.hid hfb
      clear hfb
      have hfx : faxN (so : Int) = false := by simp [faxN]; omega
      go_upto_region 23 with (fail)
      go_cut [15] from 121 to 126 (fun x wx => x = .bool false ∧ wx = wc)
      case first =>
        by_cases lo : so < 2
        · have loI : ¬ (2 : Int) ≤ so := by omega
          go_wp2_with fail
          go_meet
          first | exact ⟨rfl, rfl⟩ | exact ⟨congrArg Value.bool (by simp; omega), rfl⟩
        · have loI : (2 : Int) ≤ so := by omega
          have hiI : ¬ (so : Int) ≤ 4 := by omega
          go_wp2_with fail
          go_meet
          first | exact ⟨rfl, rfl⟩ | exact ⟨congrArg Value.bool (by simp; omega), rfl⟩
      obtain ⟨rfl, rfl⟩ := hcut
      go_upto_region 24 with (fail)
      go_cut [16] from 127 to 151 (fun x wx => x = .bool fb ∧ wx = wc)
      case first =>
        by_cases f5 : so = 5 ∨ so = 8 ∨ so = 32946
        · by_cases f8 : bi = 8 ∨ bi = 16 ∨ bi = 32
          · have hfb : fb = true := by rw [Hfb.out]; rcases f5 with rfl | rfl | rfl <;> rcases f8 with rfl | rfl | rfl <;> rfl
            subst hfb
            rcases f5 with rfl | rfl | rfl <;> rcases f8 with rfl | rfl | rfl
            all_goals
              go_wp2_with fail
              go_meet
              exact ⟨rfl, rfl⟩
          · simp only [not_or] at f8
            obtain ⟨b1, b2, b3⟩ := f8
            have b1I : ¬ (bi : Int) = 8 := by omega
            have b2I : ¬ (bi : Int) = 16 := by omega
            have b3I : ¬ (bi : Int) = 32 := by omega
            have hfb : fb = false := by rw [Hfb.out]; simp [predB, b1I, b2I, b3I]
            have HFB := Lib.hid hfb
            clear hfb
            rcases f5 with rfl | rfl | rfl
            all_goals
              go_wp2_with fail
              go_meet
              exact ⟨congrArg Value.bool (by rw [HFB.out]; simp; omega), rfl⟩
        · simp only [not_or] at f5
          obtain ⟨b1, b2, b3⟩ := f5
          have b1I : ¬ (so : Int) = 5 := by omega
          have b2I : ¬ (so : Int) = 8 := by omega
          have b3I : ¬ (so : Int) = 32946 := by omega
          have hfb : fb = false := by rw [Hfb.out]; simp [predB, b1I, b2I, b3I]
          have HFB := Lib.hid hfb
          clear hfb
          go_wp2_with fail
          go_meet
          exact ⟨congrArg Value.bool (by rw [HFB.out]), rfl⟩
      obtain ⟨rfl, rfl⟩ := hcut
      have hpb : predB (so : Int) (bi : Int) = fb := Hfb.out.symm
      cases pd
      · skip
        obtain rfl : er = 0 := by rw [HER2.out]; unfold faxD; first | (simp [*]; done) | (simp [faxN, predB, *]; done)
        have HPF := Lib.hid (HPH2.out rfl)
        have HS2 := Lib.hid (HS.out.set 12 (.bool false))
        clear HPH2
        go_upto_region 28 with (fail)
        clear p5 p6 p10 p12 g12 e4 e5
        have HS9 : Hid (St w0 _ (blk bp (.cells #[.int .i64 0, .int .i64 0, .bool false, .int .i64 0, .int .i64 0, .int .i64 (per : Int), .int .i64 (bi : Int), .int .u64 (x0 : Int), .bool ((x2 : Int) == 2), .int .i64 (so : Int), .bool false, .bool ((x1 : Int) == 2), .bool false, nilV, nilV, nilV] 30) * (blk br (.cells #[.int .i64 0, .int .i64 0, .bool false, .int .i64 0, .int .i64 0, .int .i64 0, .int .i64 0, .int .u64 0, .bool false, .int .i64 0, .bool false, .bool false, .bool false, nilV, nilV, nilV] 30) * (own 27 1 (.slice (some ⟨gv, 0, none⟩) 6 co) 6 (xl.map u64v) * (own 3 1 (.slice (some ⟨bt, 0, none⟩) 6 6) 6 (tgs.map fun (n : Nat) => Value.int .i64 (n : Int)) * (own 27 1 (.slice (some ⟨bl, 0, none⟩) 6 6) 6 (lss.map fun (n : Nat) => Value.int .u64 (n : Int)) * (own 27 1 (.slice (some ⟨bm, 0, none⟩) 6 6) 6 (mss.map fun (n : Nat) => Value.int .u64 (n : Int)) * F))))))) := HS2
        clear HS HS2
        have HS := HS9
        clear HS9
        generalize World.setCell _ _ _ = wz at *
        have HB := Lib.hid (HS.out.perm (star_left_comm _ _ _))
        have HR := Lib.hid (HB.out.setRow #[.int .i64 0, .int .i64 0, .bool false, .int .i64 0, .int .i64 0, .int .i64 (per : Int), .int .i64 (bi : Int), .int .u64 (x0 : Int), .bool ((x2 : Int) == 2), .int .i64 (so : Int), .bool false, .bool ((x1 : Int) == 2), .bool false, nilV, nilV, nilV])
        go_wp2_with (first | (refine wpList_load_blk rfl 30 _ rfl HS.out rfl Try.underlying30 rfl (by show _ = some 16; kernel_rfl) ?_) | (refine wpList_store_blk rfl 30 _ _ rfl HB.out rfl rfl (by show _ = some 16; kernel_rfl) rfl rfl ?_))
        refine bodyPost_ret2c rfl rfl HR.out.at_ Try.underlying30 rfl (by show _ = some 16; kernel_rfl) rfl ?_
        refine ⟨⟨⟨0, 0, false, 0, 0⟩, per, bi, x0, ((x2 : Int) == 2), (so : Nat), false, ((x1 : Int) == 2), false, [], [], []⟩, rfl, fun _ => (by rw [HPF.out]; first | rfl | simp [*]), (by first | exact HR.out.right.right | exact HR.out.right.right.right.right.right.right | exact HR.out.right.right.right.right.right)⟩
      · cases fb
        · skip
          obtain rfl : er = 3 := by rw [HER2.out]; unfold faxD; first | (simp [*]; done) | (simp [faxN, predB, *]; done)
          go_upto_region 26 with (fail)
          have HB := Lib.hid (HS.out.perm (star_left_comm _ _ _))
          have HR := Lib.hid (HB.out.setRow #[.int .i64 0, .int .i64 0, .bool false, .int .i64 0, .int .i64 0, .int .i64 (per : Int), .int .i64 (bi : Int), .int .u64 (x0 : Int), .bool ((x2 : Int) == 2), .int .i64 (so : Int), .bool true, .bool ((x1 : Int) == 2), .bool false, nilV, nilV, nilV])
          go_wp2_with (first | (refine wpList_load_blk rfl 30 _ rfl HS.out rfl Try.underlying30 rfl (by show _ = some 16; kernel_rfl) ?_) | (refine wpList_store_blk rfl 30 _ _ rfl HB.out rfl rfl (by show _ = some 16; kernel_rfl) rfl rfl ?_))
          refine bodyPost_ret2c rfl rfl HR.out.at_ Try.underlying30 rfl (by show _ = some 16; kernel_rfl) rfl ?_
          refine ⟨⟨⟨0, 0, false, 0, 0⟩, per, bi, x0, ((x2 : Int) == 2), (so : Nat), true, ((x1 : Int) == 2), false, [], [], []⟩, rfl, fun h0 => absurd h0 (by first | decide | assumption), (by first | exact HR.out.right.right | exact HR.out.right.right.right.right.right.right | exact HR.out.right.right.right.right.right)⟩
        · skip
          obtain rfl : er = 0 := by rw [HER2.out]; unfold faxD; first | (simp [*]; done) | (simp [faxN, predB, *]; done)
          have HPF := Lib.hid (HPH2.out rfl)
          have HS2 := Lib.hid (HS.out.set 12 (.bool false))
          clear HPH2
          go_upto_region 28 with (fail)
          clear p5 p6 p10 p12 g12 e4 e5
          have HS9 : Hid (St w0 _ (blk bp (.cells #[.int .i64 0, .int .i64 0, .bool false, .int .i64 0, .int .i64 0, .int .i64 (per : Int), .int .i64 (bi : Int), .int .u64 (x0 : Int), .bool ((x2 : Int) == 2), .int .i64 (so : Int), .bool true, .bool ((x1 : Int) == 2), .bool false, nilV, nilV, nilV] 30) * (blk br (.cells #[.int .i64 0, .int .i64 0, .bool false, .int .i64 0, .int .i64 0, .int .i64 0, .int .i64 0, .int .u64 0, .bool false, .int .i64 0, .bool false, .bool false, .bool false, nilV, nilV, nilV] 30) * (own 27 1 (.slice (some ⟨gv, 0, none⟩) 6 co) 6 (xl.map u64v) * (own 3 1 (.slice (some ⟨bt, 0, none⟩) 6 6) 6 (tgs.map fun (n : Nat) => Value.int .i64 (n : Int)) * (own 27 1 (.slice (some ⟨bl, 0, none⟩) 6 6) 6 (lss.map fun (n : Nat) => Value.int .u64 (n : Int)) * (own 27 1 (.slice (some ⟨bm, 0, none⟩) 6 6) 6 (mss.map fun (n : Nat) => Value.int .u64 (n : Int)) * F))))))) := HS2
          clear HS HS2
          have HS := HS9
          clear HS9
          generalize World.setCell _ _ _ = wz at *
          have HB := Lib.hid (HS.out.perm (star_left_comm _ _ _))
          have HR := Lib.hid (HB.out.setRow #[.int .i64 0, .int .i64 0, .bool false, .int .i64 0, .int .i64 0, .int .i64 (per : Int), .int .i64 (bi : Int), .int .u64 (x0 : Int), .bool ((x2 : Int) == 2), .int .i64 (so : Int), .bool true, .bool ((x1 : Int) == 2), .bool false, nilV, nilV, nilV])
          go_wp2_with (first | (refine wpList_load_blk rfl 30 _ rfl HS.out rfl Try.underlying30 rfl (by show _ = some 16; kernel_rfl) ?_) | (refine wpList_store_blk rfl 30 _ _ rfl HB.out rfl rfl (by show _ = some 16; kernel_rfl) rfl rfl ?_))
          refine bodyPost_ret2c rfl rfl HR.out.at_ Try.underlying30 rfl (by show _ = some 16; kernel_rfl) rfl ?_
          refine ⟨⟨⟨0, 0, false, 0, 0⟩, per, bi, x0, ((x2 : Int) == 2), (so : Nat), true, ((x1 : Int) == 2), false, [], [], []⟩, rfl, fun _ => (by rw [HPF.out]; first | rfl | simp [*]), (by first | exact HR.out.right.right | exact HR.out.right.right.right.right.right.right | exact HR.out.right.right.right.right.right)⟩
end Go.Proofs.Ythoegjdkeooenaa
