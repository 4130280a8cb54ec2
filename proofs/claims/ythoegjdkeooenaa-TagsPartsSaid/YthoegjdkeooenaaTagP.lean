/-
  Layer 23: the fields that tell of a page, as plain Lean; no program.
-/
import Derived.Test.YthoegjdkeooenaaTagM
namespace Go.Mz
open Go.RowKit
set_option linter.unusedVariables false
set_option linter.unusedSimpArgs false

def u64N (x : Int) : Nat := (x % 18446744073709551616).toNat
theorem u64N_eq {x : Int} {n : Nat} (h1 : -9223372036854775808 ≤ x) (h2 : x < 9223372036854775808) (h : u64N x = n) (hn : n < 9223372036854775808) : x = n := by unfold u64N at h; omega
def twoN (b : Bool) : Nat := if b then 2 else 1
def t4N (p : PgD) (al : Bool) : Nat := (if p.two then 1 else 0) + (if al then 4 else 0)
def bitsR (p : PgD) : List Nat := List.replicate p.per.toNat (u64N p.bits)
def wideK (lg : Bool) : Int := if lg then 16 else 4
def base9 (p : PgD) : List Fld :=
  [⟨256, 4, [u64N p.lay.width]⟩, ⟨257, 4, [u64N p.lay.height]⟩, ⟨258, 3, bitsR p⟩, ⟨259, 3, [u64N p.scheme]⟩, ⟨262, 3, [p.photo]⟩, ⟨266, 3, [twoN p.low]⟩, ⟨277, 3, [u64N p.per]⟩, ⟨284, 3, [twoN p.planar]⟩, ⟨317, 3, [twoN p.predict]⟩]
def faxL (p : PgD) (al : Bool) : List Fld := if p.scheme = 3 then [⟨292, 4, [t4N p al]⟩] else []
def cutL (p : PgD) (lg : Bool) : List Fld :=
  if p.lay.tiled then [⟨322, 4, [u64N p.lay.w]⟩, ⟨323, 4, [u64N p.lay.h]⟩, ⟨324, wideK lg, p.offs⟩, ⟨325, wideK lg, p.cnts⟩] else [⟨278, 4, [u64N p.lay.h]⟩, ⟨273, wideK lg, p.offs⟩, ⟨279, wideK lg, p.cnts⟩]
def baseL (p : PgD) (al lg : Bool) : List Fld := base9 p ++ faxL p al ++ cutL p lg
/-- A field among those in order of their tags. -/
def insF (f : Fld) : List Fld → List Fld
  | [] => [f]
  | g :: r => if g.tag < f.tag then g :: insF f r else f :: g :: r
def sortF (l : List Fld) : List Fld := l.foldl (fun s f => insF f s) []
/-- Fields of which one has a known tag, or the tag of another. -/
def twiceB : List Fld → List Fld → Bool
  | _, [] => false
  | acc, f :: r => if knownL.contains f.tag || acc.any (fun g => g.tag == f.tag) then true else twiceB (acc ++ [f]) r
instance : DecidableEq LayD := fun a b => by
  obtain ⟨a1, a2, a3, a4, a5⟩ := a
  obtain ⟨b1, b2, b3, b4, b5⟩ := b
  exact decidable_of_iff (a1 = b1 ∧ a2 = b2 ∧ a3 = b3 ∧ a4 = b4 ∧ a5 = b5) (by simp)
def fieldsL (p : PgD) (al lg : Bool) : List Fld := sortF (baseL p al lg ++ p.rest)
def fieldsOk (p : PgD) (al lg : Bool) : Prop := descE (fieldsL p al lg) = 0 ∧ (pageV (fieldsL p al lg)).scheme = p.scheme ∧ (pageV (fieldsL p al lg)).lay = p.lay ∧ (pageV (fieldsL p al lg)).two = p.two
instance (p : PgD) (al lg : Bool) : Decidable (fieldsOk p al lg) := by unfold fieldsOk; infer_instance
def fieldsE (p : PgD) (al lg : Bool) : Nat := if twiceB (baseL p al lg) p.rest then 14 else if fieldsOk p al lg then 0 else 10
def fieldsV (p : PgD) (al lg : Bool) : List Fld := if fieldsE p al lg = 0 then fieldsL p al lg else []

/-! ### Order -/
theorem insF_perm (f : Fld) : ∀ l, (insF f l).Perm (f :: l)
  | [] => List.Perm.refl _
  | g :: r => by
    rw [insF]; split
    · exact ((insF_perm f r).cons g).trans (List.Perm.swap f g r)
    · exact List.Perm.refl _
theorem sortF_perm_go (l : List Fld) : ∀ s, (l.foldl (fun s f => insF f s) s).Perm (s ++ l) := by
  induction l with
  | nil => intro s; rw [List.append_nil]; exact List.Perm.refl _
  | cons f l ih =>
    intro s
    rw [List.foldl_cons]
    refine (ih _).trans ?_
    exact ((insF_perm f s).append_right l).trans (List.perm_middle.symm)
theorem sortF_perm (l : List Fld) : (sortF l).Perm l := sortF_perm_go l []
def Rising (l : List Fld) : Prop := l.Pairwise fun a b => a.tag < b.tag
theorem insF_rising {f : Fld} : ∀ {l : List Fld}, Rising l → (∀ g ∈ l, g.tag ≠ f.tag) → Rising (insF f l)
  | [], _, _ => by rw [insF]; exact List.pairwise_singleton _ _
  | g :: r, h, hn => by
    unfold Rising at h
    rw [List.pairwise_cons] at h
    rw [insF]; split
    · rename_i hlt
      refine List.pairwise_cons.2 ⟨fun x hx => ?_, insF_rising h.2 fun g hg => hn g (List.mem_cons_of_mem _ hg)⟩
      rcases List.mem_cons.1 ((insF_perm f r).subset hx) with rfl | hx
      · exact hlt
      · exact h.1 x hx
    · rename_i hlt
      have hlt2 : f.tag < g.tag := by have := hn g List.mem_cons_self; omega
      refine List.pairwise_cons.2 ⟨fun x hx => ?_, List.pairwise_cons.2 h⟩
      rcases List.mem_cons.1 hx with rfl | hx
      · exact hlt2
      · exact Nat.lt_trans hlt2 (h.1 x hx)
theorem sortF_rising_go (l : List Fld) : ∀ s, Rising s → ((s ++ l).map Fld.tag).Nodup → Rising (l.foldl (fun s f => insF f s) s) := by
  induction l with
  | nil => intro s h _; exact h
  | cons f l ih =>
    intro s h hn
    rw [List.foldl_cons]
    rw [List.map_append, List.map_cons] at hn
    refine ih _ (insF_rising h fun g hg e => ?_) ?_
    · rw [List.nodup_append] at hn
      exact hn.2.2 g.tag (List.mem_map_of_mem hg) f.tag List.mem_cons_self e
    · rw [List.map_append]
      refine (List.Perm.nodup_iff ?_).2 hn
      exact (((insF_perm f s).map Fld.tag).append_right _).trans List.perm_middle.symm
theorem sortF_rising {l : List Fld} (h : (l.map Fld.tag).Nodup) : Rising (sortF l) := sortF_rising_go l [] List.Pairwise.nil h
/-- Two ways of laying the same fields in order give one list. -/
theorem rising_unique {l m : List Fld} (h1 : Rising l) (h2 : Rising m) (hp : l.Perm m) : l = m :=
  hp.eq_of_pairwise (fun a b _ _ h h' => by omega) h1 h2
theorem rising_nodup {l : List Fld} (h : Rising l) : (l.map Fld.tag).Nodup := by
  unfold List.Nodup
  rw [List.pairwise_map]
  exact h.imp fun h => Nat.ne_of_lt h
/-! ### What is found -/
theorem findF_mem {l : List Fld} (hn : (l.map Fld.tag).Nodup) {f : Fld} (h : f ∈ l) : findF l f.tag = some f := by
  induction l with
  | nil => cases h
  | cons g r ih =>
    rw [List.map_cons, List.nodup_cons] at hn
    unfold findF
    rw [List.find?_cons]
    rcases List.mem_cons.1 h with rfl | h
    · simp
    · have hne : (g.tag == f.tag) = false := by
        rw [beq_eq_false_iff_ne]
        exact fun e => hn.1 (by rw [e]; exact List.mem_map_of_mem h)
      rw [hne]
      exact ih hn.2 h
theorem twiceB_nodup {acc : List Fld} : ∀ {r : List Fld}, twiceB acc r = false → (acc.map Fld.tag).Nodup → ((acc ++ r).map Fld.tag).Nodup ∧ ∀ f ∈ r, knownL.contains f.tag = false := by
  intro r
  induction r generalizing acc with
  | nil => intro _ h; rw [List.append_nil]; exact ⟨h, fun f hf => by cases hf⟩
  | cons f r ih =>
    intro h hn
    rw [twiceB] at h
    split at h
    · cases h
    · rename_i hc
      rw [Bool.not_eq_true, Bool.or_eq_false_iff] at hc
      obtain ⟨hk, ha⟩ := hc
      have hnf : ∀ g ∈ acc, g.tag ≠ f.tag := fun g hg e => by
        have := List.any_eq_false.1 ha g hg
        simp [e] at this
      obtain ⟨h1, h2⟩ := ih h (by
        rw [List.map_append, List.map_cons, List.map_nil, List.nodup_append]
        refine ⟨hn, by simp, fun a ha b hb e => ?_⟩
        obtain ⟨g, hg, rfl⟩ := List.mem_map.1 ha
        rw [List.mem_singleton] at hb
        exact hnf g hg (e.trans hb))
      rw [List.append_assoc] at h1
      exact ⟨h1, fun x hx => by
        rcases List.mem_cons.1 hx with rfl | hx
        · exact hk
        · exact h2 x hx⟩
theorem baseL_nodup (p : PgD) (al lg : Bool) : ((baseL p al lg).map Fld.tag).Nodup := by
  have e : (baseL p al lg).map Fld.tag = [256, 257, 258, 259, 262, 266, 277, 284, 317] ++ (if p.scheme = 3 then [292] else []) ++ (if p.lay.tiled then [322, 323, 324, 325] else [278, 273, 279]) := by
    unfold baseL base9 faxL cutL
    split <;> split <;> rfl
  rw [e]
  split <;> split <;> decide
theorem baseL_known (p : PgD) (al lg : Bool) : ∀ f ∈ baseL p al lg, knownL.contains f.tag = true := by
  intro f hf
  have : ((baseL p al lg).map Fld.tag).all (fun t => knownL.contains t) = true := by
    have e : (baseL p al lg).map Fld.tag = [256, 257, 258, 259, 262, 266, 277, 284, 317] ++ (if p.scheme = 3 then [292] else []) ++ (if p.lay.tiled then [322, 323, 324, 325] else [278, 273, 279]) := by
      unfold baseL base9 faxL cutL
      split <;> split <;> rfl
    rw [e]
    split <;> split <;> decide
  exact List.all_eq_true.1 this _ (List.mem_map_of_mem hf)
section
variable {p : PgD} {al lg : Bool} (h : twiceB (baseL p al lg) p.rest = false)
include h
theorem fieldsL_nodup : ((fieldsL p al lg).map Fld.tag).Nodup :=
  rising_nodup (sortF_rising (twiceB_nodup h (baseL_nodup p al lg)).1)
theorem fieldsL_find {f : Fld} (hf : f ∈ baseL p al lg) : findF (fieldsL p al lg) f.tag = some f :=
  findF_mem (fieldsL_nodup h) ((sortF_perm _).symm.subset (List.mem_append_left _ hf))
theorem fieldsL_rest : ((fieldsL p al lg).filter fun f => !knownL.contains f.tag).Perm p.rest := by
  refine ((sortF_perm _).filter _).trans ?_
  rw [List.filter_append]
  have e1 : (baseL p al lg).filter (fun f => !knownL.contains f.tag) = [] := by
    rw [List.filter_eq_nil_iff]
    intro f hf
    rw [baseL_known p al lg f hf]; decide
  have e2 : p.rest.filter (fun f => !knownL.contains f.tag) = p.rest := by
    rw [List.filter_eq_self]
    intro f hf
    rw [(twiceB_nodup h (baseL_nodup p al lg)).2 f hf]; rfl
  rw [e1, e2]
  exact List.Perm.refl _
end
theorem oneV_one {l : List Fld} {t least most without : Nat} {k : Int} {n : Nat} (hf : findF l t = some ⟨t, k, [n]⟩) (he : oneE l t least most = 0) : oneV l t least most without = n ∧ least ≤ n ∧ n ≤ most := by
  rw [oneE, hf] at he
  rw [oneV, hf]
  simp only at he ⊢
  split at he
  · rename_i hw
    split at he
    · rename_i hfit
      rw [hw, hfit]
      simp only [fitsV, Bool.and_eq_true, List.headD_cons] at hfit
      exact ⟨rfl, of_decide_eq_true hfit.1.2, of_decide_eq_true hfit.2⟩
    · cases he
  · cases he
/-- Fields that are right tell of the page that they were told of. -/
theorem fields_tell {p : PgD} {al lg : Bool} (hp1 : -9223372036854775808 ≤ p.per) (hp2 : p.per < 9223372036854775808) (hb1 : -9223372036854775808 ≤ p.bits) (hb2 : p.bits < 9223372036854775808)
    (h : fieldsE p al lg = 0) : descE (fieldsL p al lg) = 0 ∧ pageV (fieldsL p al lg) = { p with rest := (pageV (fieldsL p al lg)).rest } ∧ (pageV (fieldsL p al lg)).rest.length = p.rest.length := by
  unfold fieldsE at h
  split at h
  · cases h
  rename_i ht
  rw [Bool.not_eq_true] at ht
  by_cases hok : fieldsOk p al lg
  rotate_left
  · rw [if_neg hok] at h; cases h
  obtain ⟨he, hs, hl, h2⟩ := hok
  have hw := firstE_zero.1 he
  have hfind : ∀ {f : Fld}, f ∈ baseL p al lg → findF (fieldsL p al lg) f.tag = some f := fun hf => fieldsL_find ht hf
  have hlen := (fieldsL_rest ht).length_eq
  have htl : tiledB (fieldsL p al lg) = p.lay.tiled := by
    have e := congrArg LayD.tiled hl
    rw [← e]
    show tiledB _ = (layV _).tiled
    unfold layV
    simp only
    split
    · rename_i h; exact h
    · rename_i h; simpa using h
  generalize hL : fieldsL p al lg = L at *
  have hmem9 : ∀ {f : Fld}, f ∈ base9 p → findF L f.tag = some f := fun hf => hfind (List.mem_append_left _ (List.mem_append_left _ hf))
  have e277 : findF L 277 = some ⟨277, 3, [u64N p.per]⟩ := hmem9 (f := ⟨277, 3, [u64N p.per]⟩) (by simp [base9])
  have e258 : findF L 258 = some ⟨258, 3, bitsR p⟩ := hmem9 (f := ⟨258, 3, bitsR p⟩) (by simp [base9])
  have e262 : findF L 262 = some ⟨262, 3, [p.photo]⟩ := hmem9 (f := ⟨262, 3, [p.photo]⟩) (by simp [base9])
  have e266 : findF L 266 = some ⟨266, 3, [twoN p.low]⟩ := hmem9 (f := ⟨266, 3, [twoN p.low]⟩) (by simp [base9])
  have e284 : findF L 284 = some ⟨284, 3, [twoN p.planar]⟩ := hmem9 (f := ⟨284, 3, [twoN p.planar]⟩) (by simp [base9])
  have e317 : findF L 317 = some ⟨317, 3, [twoN p.predict]⟩ := hmem9 (f := ⟨317, 3, [twoN p.predict]⟩) (by simp [base9])
  have w1 : oneE L 277 1 topN = 0 := hw _ (by simp [wrongL])
  have w2 : perE L = 0 := hw _ (by simp [wrongL])
  have w3 : bitsE L (perV L) = 0 := hw _ (by simp [wrongL])
  have w4 : oneE L 262 0 65535 = 0 := hw _ (by simp [wrongL])
  have w5 : oneE L 266 1 2 = 0 := hw _ (by simp [wrongL])
  have w6 : oneE L 284 1 2 = 0 := hw _ (by simp [wrongL])
  have w7 : oneE L 317 1 3 = 0 := hw _ (by simp [wrongL])
  obtain ⟨o1, l1, _⟩ := oneV_one (without := 1) e277 w1
  have hper : (perV L : Int) = p.per ∧ perV L = u64N p.per := by
    unfold perE at w2
    unfold perV
    split at w2
    · cases w2
    · rename_i h8
      rw [if_neg h8]
      rw [o1] at h8 ⊢
      exact ⟨(u64N_eq hp1 hp2 rfl (by omega)).symm, rfl⟩
  have hbits : ((bitsV L (perV L) : Nat) : Int) = p.bits := by
    unfold bitsE at w3
    rw [e258] at w3
    simp only at w3
    rw [if_pos (show wholeK 3 = true by rfl)] at w3
    split at w3
    · rename_i hlen
      split at w3
      · cases w3
      · rename_i hbad
        rw [Bool.not_eq_true] at hbad
        unfold bitsV
        rw [e258]
        simp only
        rw [hbad, if_pos (by simp [hlen]; rfl)]
        have hp : p.per.toNat = (bitsR p).length := by unfold bitsR; rw [List.length_replicate]
        have hpos : 0 < (bitsR p).length := by rw [hlen]; omega
        unfold bitsR at hbad hpos ⊢
        rw [List.length_replicate] at hpos
        obtain ⟨m, hm⟩ : ∃ m, p.per.toNat = m + 1 := ⟨p.per.toNat - 1, by omega⟩
        rw [hm, List.replicate_succ] at hbad ⊢
        unfold badB at hbad
        rw [List.any_cons, List.headD_cons, Bool.or_eq_false_iff] at hbad
        have h3 := hbad.1
        simp only [bne_self_eq_false, Bool.false_or, Bool.or_eq_false_iff, decide_eq_false_iff_not] at h3
        rw [List.headD_cons]
        exact (u64N_eq hb1 hb2 rfl (by omega)).symm
    · cases w3
  have hv : ∀ b : Bool, (twoN b == 2) = b := fun b => by cases b <;> rfl
  have hoff : needV L (offT L) = p.offs := by
    unfold offT needV
    rw [htl]
    cases htt : p.lay.tiled
    · have e : findF L 273 = some ⟨273, wideK lg, p.offs⟩ := hfind (f := ⟨273, wideK lg, p.offs⟩) (List.mem_append_right _ (by unfold cutL; rw [htt]; simp))
      simp only [Bool.false_eq_true, if_false, e]
      cases lg <;> rfl
    · have e : findF L 324 = some ⟨324, wideK lg, p.offs⟩ := hfind (f := ⟨324, wideK lg, p.offs⟩) (List.mem_append_right _ (by unfold cutL; rw [htt]; simp))
      simp only [if_true, e]
      cases lg <;> rfl
  have hcnt : needV L (cntT L) = p.cnts := by
    unfold cntT needV
    rw [htl]
    cases htt : p.lay.tiled
    · have e : findF L 279 = some ⟨279, wideK lg, p.cnts⟩ := hfind (f := ⟨279, wideK lg, p.cnts⟩) (List.mem_append_right _ (by unfold cutL; rw [htt]; simp))
      simp only [Bool.false_eq_true, if_false, e]
      cases lg <;> rfl
    · have e : findF L 325 = some ⟨325, wideK lg, p.cnts⟩ := hfind (f := ⟨325, wideK lg, p.cnts⟩) (List.mem_append_right _ (by unfold cutL; rw [htt]; simp))
      simp only [if_true, e]
      cases lg <;> rfl
  refine ⟨he, ?_, hlen⟩
  have p1 : (pageV L).per = p.per := hper.1
  have p2 : (pageV L).bits = p.bits := hbits
  have p3 : (pageV L).photo = p.photo := (oneV_one (without := 0) e262 w4).1
  have p4 : (pageV L).planar = p.planar := by
    show (oneV L 284 1 2 1 == 2) = _
    rw [(oneV_one (without := 1) e284 w6).1, hv]
  have p5 : (pageV L).predict = p.predict := by
    show (oneV L 317 1 3 1 == 2) = _
    rw [(oneV_one (without := 1) e317 w7).1, hv]
  have p6 : (pageV L).low = p.low := by
    show (oneV L 266 1 2 1 == 2) = _
    rw [(oneV_one (without := 1) e266 w5).1, hv]
  have p7 : (pageV L).offs = p.offs := hoff
  have p8 : (pageV L).cnts = p.cnts := hcnt
  generalize pageV L = q at *
  obtain ⟨q1, q2, q3, q4, q5, q6, q7, q8, q9, q10, q11, q12⟩ := q
  simp only at *
  subst p1 p2 p3 p4 p5 p6 p7 p8 hs hl h2
  rfl
end Go.Mz
