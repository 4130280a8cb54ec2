/-
  Layer 8 (inflate): what the bytes stand for in which tokens are told by the given words, behind bytes that stand as they are; cut off, and with too little room. Plain Lean; no program.
-/
import Derived.Test.YtddifndfppilkaaGreatTokM
namespace Go.Proofs.YtddifndfppilkaaGreat
open Go.RowKit Go.Mz
set_option linter.unusedVariables false
set_option linter.unusedSimpArgs false

def FA : List (List Nat) := wordsC fixA
def FB : List (List Nat) := wordsC fixB
theorem okA : OkC fixA := by decide +kernel
theorem okB : OkC fixB := by decide +kernel
theorem nats_fixA : natsOf (fixA.map fun (n : Nat) => (n : Int)) = fixA := by decide +kernel
theorem nats_fixB : natsOf (fixB.map fun (n : Nat) => (n : Int)) = fixB := by decide +kernel
theorem full_fixA : fullC fixA = true := by decide +kernel
theorem fixA_30 : ∀ n ∈ fixA, n ≤ 30 := by decide +kernel
theorem fixB_30 : ∀ n ∈ fixB, n ≤ 30 := by decide +kernel
theorem fixA_pos : ∀ n ∈ fixA, 0 < n := by decide +kernel
theorem fixB_pos : ∀ n ∈ fixB, 0 < n := by decide +kernel
theorem canon_fixA : canonI (fixA.map fun (n : Nat) => (n : Int)) = (FA, true, 0) := by
  rw [canonI, nats_fixA, if_neg, if_pos okA, full_fixA]; rfl
  rintro ⟨x, hx, h⟩
  obtain ⟨n, hn, rfl⟩ := List.mem_map.1 hx
  have := fixA_30 n hn
  omega
theorem canon_fixB : ∃ b, canonI (fixB.map fun (n : Nat) => (n : Int)) = (FB, b, 0) := by
  rw [canonI, nats_fixB, if_neg, if_pos okB]; exact ⟨_, rfl⟩
  rintro ⟨x, hx, h⟩
  obtain ⟨n, hn, rfl⟩ := List.mem_map.1 hx
  have := fixB_30 n hn
  omega
theorem words_FA (how : Nat) : wordsF fixA how = .inr FA := by
  rw [wordsF, canon_fixA, if_neg (by simp), if_neg (by simp)]
theorem words_FB : wordsF fixB 2 = .inr FB := by
  obtain ⟨b, hb⟩ := canon_fixB
  rw [wordsF, hb, if_neg (by simp), if_neg (by simp)]
theorem goodF : GoodW FA FB := by
  refine ⟨pf_wordsC okA fixA_30, pf_wordsC okB fixB_30, fun i hi => ?_, fun i hi => ?_⟩
  · have hl : i < fixA.length := by rw [fixA_len]; exact hi
    refine ⟨_, wordsC_at hl, fun h0 => ?_⟩
    have := congrArg List.length h0
    rw [length_wordC, List.getD_eq_getElem?_getD, List.getElem?_eq_getElem hl] at this
    have h2 := fixA_pos _ (List.getElem_mem hl)
    simp at this; omega
  · have hl : i < fixB.length := by rw [fixB_len]; exact hi
    refine ⟨_, wordsC_at hl, fun h0 => ?_⟩
    have := congrArg List.length h0
    rw [length_wordC, List.getD_eq_getElem?_getD, List.getElem?_eq_getElem hl] at this
    have h2 := fixB_pos _ (List.getElem_mem hl)
    simp at this; omega
theorem bit_FA : ∀ v ∈ FA, Bit v := bit_wordsC fixA
theorem bit_FB : ∀ v ∈ FB, Bit v := bit_wordsC fixB
theorem len_FA : FA.length = 288 := by simp [FA, wordsC, fixA_len]
theorem len_FB : FB.length = 30 := by simp [FB, wordsC, fixB_len]

def headB (a : List UInt8) : List UInt8 := [0, UInt8.ofNat a.length, 0, UInt8.ofNat (255 - a.length), 255] ++ a
def tokX (l : List TokD) : List Nat := [1, 1, 0] ++ toldB FA FB l
def allB (a : List UInt8) (l : List TokD) : List UInt8 := headB a ++ bytesB true (tokX l)
theorem len_headB (a : List UInt8) : (headB a).length = 5 + a.length := by simp [headB]; omega
theorem bitsL_cons (c : UInt8) (r : List UInt8) : bitsL true (c :: r) = (wordB c.toNat 8).reverse ++ bitsL true r := by simp [bitsL, bits8]
theorem vl_8 {t r : List Nat} {p : Nat} (c : UInt8) (h : t.drop p = (wordB c.toNat 8).reverse ++ r) : vl t p 8 = c.toNat := vl_word h (UInt8.toNat_lt c)
theorem vl_16 {t r : List Nat} {p : Nat} (c d : UInt8) (h : t.drop p = (wordB c.toNat 8).reverse ++ ((wordB d.toNat 8).reverse ++ r)) : vl t p 16 = c.toNat + d.toNat * 256 := by
  have h1 := vl_add t p 8 8
  rw [vl_8 c h] at h1
  have h2 := drop_more h
  rw [show (wordB c.toNat 8).reverse.length = 8 by simp] at h2
  rw [vl_8 d h2] at h1
  exact h1
theorem bytes_told {t r : List Nat} {most : Nat} : ∀ (x : List UInt8) (p : Nat) (out : List UInt8), p ≤ t.length → t.drop p = bitsL true x ++ r → out.length ≤ most →
    bytesF t most x.length p out = if most < out.length + x.length then .inl 8 else .inr (p + 8 * x.length, out ++ x) := by
  intro x
  induction x with
  | nil => intro p out hp h ho; rw [List.length_nil, bytesF, if_neg (by omega)]; simp
  | cons c x ih =>
    intro p out hp h ho
    rw [bitsL_cons, List.append_assoc] at h
    have hl := drop_len h (.inr hp)
    rw [List.length_append, show (wordB c.toNat 8).reverse.length = 8 by simp] at hl
    rw [List.length_cons, bytesF, if_neg (by omega)]
    by_cases hm : most ≤ out.length
    · rw [if_pos hm, if_pos (by omega)]
    · rw [if_neg hm, vl_8 c h, litNat]
      have h2 := drop_more h
      rw [show (wordB c.toNat 8).reverse.length = 8 by simp] at h2
      rw [ih (p + 8) (out ++ [c]) (by omega) h2 (by simp; omega), List.length_append, List.length_singleton, List.append_assoc, show p + 8 + 8 * x.length = p + 8 * (x.length + 1) by omega, show out.length + 1 + x.length = out.length + (x.length + 1) by omega]
      rfl
theorem bytes_cut {t : List Nat} {most : Nat} : ∀ (n : Nat) (x : List UInt8) (p : Nat) (out : List UInt8), p ≤ t.length → t.drop p = bitsL true x → x.length < n → out.length + n ≤ most →
    bytesF t most n p out = .inl 2 := by
  intro n
  induction n with
  | zero => intro x p out hp h hx; exact absurd hx (Nat.not_lt_zero _)
  | succ n ih =>
    intro x p out hp h hx ho
    have hl := drop_len h (.inr hp)
    rw [bytesF]
    cases x with
    | nil => rw [if_pos (by rw [hl]; simp [bitsL])]
    | cons c x =>
      rw [length_bitsL, List.length_cons] at hl
      rw [bitsL_cons] at h
      rw [if_neg (by omega), if_neg (by omega), vl_8 c h]
      have h2 := drop_more h
      rw [show (wordB c.toNat 8).reverse.length = 8 by simp] at h2
      simp only [List.length_cons] at hx
      exact ih x (p + 8) _ (by omega) h2 (by omega) (by simp; omega)
theorem nat_8 {n : Nat} (h : n < 256) : (UInt8.ofNat n).toNat = n := by simp [UInt8.toNat_ofNat, Nat.mod_eq_of_lt h]
theorem vl_000 (r : List Nat) : vl ([0, 0, 0] ++ r) 0 3 = 0 := vl_word (v := 0) (n := 3) (r := r) rfl (by decide)
theorem vl_110 {t r : List Nat} {p : Nat} (h : t.drop p = [1, 1, 0] ++ r) : vl t p 3 = 3 := vl_word (v := 3) (n := 3) (r := r) h (by decide)
/-- The block of bytes that stand as they are: what is told ahead of them. -/
theorem stored_five {t u : List Nat} {n : Nat} (hn : n ≤ 200) (most : Nat) (ht : t = bitsL true [0, UInt8.ofNat n, 0, UInt8.ofNat (255 - n), 255] ++ u) :
    vl t 0 3 = 0 ∧ storedF t most 3 [] = bytesF t most n 40 [] ∧ t.drop 40 = u ∧ t.length = 40 + u.length := by
  have e0 : t = (wordB 0 8).reverse ++ ((wordB n 8).reverse ++ ((wordB 0 8).reverse ++ ((wordB (255 - n) 8).reverse ++ ((wordB 255 8).reverse ++ u)))) := by
    rw [ht, bitsL_cons, bitsL_cons, bitsL_cons, bitsL_cons, bitsL_cons, nat_8 (by omega), nat_8 (by omega)]
    simp only [List.append_assoc]
    rfl
  have hl : t.length = 40 + u.length := by rw [ht, List.length_append, length_bitsL]; rfl
  have w8 : ∀ v, (wordB v 8).reverse.length = 8 := fun v => by simp
  have d0 : t.drop 0 = (wordB 0 8).reverse ++ ((wordB n 8).reverse ++ ((wordB 0 8).reverse ++ ((wordB (255 - n) 8).reverse ++ ((wordB 255 8).reverse ++ u)))) := e0
  have d8 := drop_more d0
  rw [w8] at d8
  have d16 := drop_more d8
  rw [w8] at d16
  have d24 := drop_more d16
  rw [w8] at d24
  have d32 := drop_more d24
  rw [w8] at d32
  have d40 := drop_more d32
  rw [w8] at d40
  have v1 : vl t 8 16 = n := by
    have := vl_16 (t := t) (p := 8) (UInt8.ofNat n) 0 (r := (wordB (255 - n) 8).reverse ++ ((wordB 255 8).reverse ++ u)) (by rw [nat_8 (by omega)]; exact d8)
    rw [nat_8 (by omega)] at this
    simpa using this
  have v2 : vl t 24 16 = 65535 - n := by
    have := vl_16 (t := t) (p := 24) (UInt8.ofNat (255 - n)) 255 (r := u) (by rw [nat_8 (by omega)]; exact d24)
    rw [nat_8 (by omega)] at this
    rw [this]
    have : (255 : UInt8).toNat = 255 := rfl
    rw [this]; omega
  refine ⟨by rw [e0]; exact vl_000 _, ?_, d40, hl⟩
  rw [storedF]
  simp only [Nat.reduceAdd, Nat.reduceDiv, Nat.reduceMul]
  rw [if_neg (by omega), v1, v2, if_neg (by omega)]
theorem stored_head {t u : List Nat} {a : List UInt8} (hn : a.length ≤ 200) (most : Nat) (ht : t = bitsL true (headB a) ++ u) :
    vl t 0 3 = 0 ∧ storedF t most 3 [] = if most < a.length then .inl 8 else .inr (8 * (5 + a.length), a) := by
  obtain ⟨h1, h2, h3, h4⟩ := stored_five hn most (t := t) (u := bitsL true a ++ u) (by rw [ht, headB, bitsL_append, List.append_assoc])
  refine ⟨h1, ?_⟩
  rw [h2, bytes_told a 40 [] (by omega) h3 (by simp)]
  simp only [List.length_nil, Nat.zero_add, List.nil_append]
  rw [show 40 + 8 * a.length = 8 * (5 + a.length) by omega]
theorem infl_head {t u : List Nat} {a : List UInt8} (hn : a.length ≤ 200) (most f : Nat) (ht : t = bitsL true (headB a) ++ u) :
    inflF t most (f + 1) 0 [] = if most < a.length then .inl 8 else inflF t most f (8 * (5 + a.length)) a := by
  obtain ⟨h1, h2⟩ := stored_head hn most ht
  have hl : t.length = 40 + 8 * a.length + u.length := by rw [ht, List.length_append, length_bitsL, len_headB]; omega
  rw [inflF, if_neg (by omega), h1, partF]
  simp only [Nat.reduceDiv, if_true, Nat.zero_add, h2]
  by_cases hm : most < a.length
  · rw [if_pos hm, if_pos hm]
  · rw [if_neg hm, if_neg hm]
    simp
theorem infl_toks {t r : List Nat} {a want : List UInt8} {l : List TokD} {most f p : Nat} (hr : rightF l [] = some want) (ha : a.length ≤ most) (hp : p ≤ t.length) (ht : t.drop p = tokX l ++ r) :
    inflF t most (f + 1) p a = if most < (a ++ want).length then .inl 8 else .inr (p + (tokX l).length, a ++ want) := by
  rw [tokX, List.append_assoc] at ht
  have hl := drop_len ht (.inr hp)
  simp only [List.length_append, List.length_cons, List.length_nil] at hl
  rw [inflF, if_neg (by omega), vl_110 ht, partF]
  have h3 := drop_more ht
  have h3 : t.drop (p + 3) = toldB FA FB l ++ r := h3
  have hlen := told_len goodF l [] want hr
  have B := block_told (t := t) (r := r) goodF (most := most) a want l (t.length + 1 - (p + 3)) (p + 3) [] hr (by omega) h3 (by omega) (by rw [List.append_nil]; exact ha)
  rw [List.append_nil] at B
  simp only [Nat.reduceDiv, Nat.reduceMod, if_true]
  rw [if_neg (by decide), blockL, words_FA, words_FB]
  simp only
  rw [B, tokX]
  by_cases hm : most < (a ++ want).length
  · rw [if_pos hm, if_pos hm]
  · rw [if_neg hm, if_neg hm]
    simp only [List.length_append, List.length_cons, List.length_nil]
    congr 2
    omega
theorem infl_toks_cut {t u : List Nat} {a want : List UInt8} {l : List TokD} {most f p : Nat} (hr : rightF l [] = some want) (ha : (a ++ want).length ≤ most) (hp : p ≤ t.length) (ht : t.drop p = u) (hu : ∃ q, q ≠ [] ∧ u ++ q = tokX l) :
    inflF t most (f + 1) p a = .inl 2 := by
  obtain ⟨q, hq, hu⟩ := hu
  have hl := drop_len ht (.inr hp)
  rw [inflF]
  by_cases h3 : t.length < p + 3
  · rw [if_pos h3]
  · rw [if_neg h3]
    have hul : 3 ≤ u.length := by omega
    rw [tokX] at hu
    rcases pre_split ⟨q, hu⟩ with ⟨q', hq', hu'⟩ | ⟨u1, rfl, hu1⟩
    · have := congrArg List.length hu'
      have hq2 : q'.length ≠ 0 := fun h0 => hq' (List.eq_nil_of_length_eq_zero h0)
      simp at this; omega
    · rw [List.append_assoc] at hu
      have hu := List.append_cancel_left hu
      rw [vl_110 ht, partF]
      have h4 : t.drop (p + 3) = u1 := drop_more ht
      have hlen := told_len goodF l [] want hr
      simp only [Nat.reduceDiv, Nat.reduceMod, if_true]
      rw [if_neg (by decide), blockL, words_FA, words_FB]
      simp only
      have B := block_cut (t := t) goodF (most := most) a want ha l (t.length + 1 - (p + 3)) (p + 3) [] u1 hr (by omega) h4 ⟨q, hq, hu⟩ (by rw [List.length_append] at hl; simp only [List.length_cons, List.length_nil] at hl; omega)
      rw [List.append_nil] at B
      rw [B]
theorem len_allB (a : List UInt8) (l : List TokD) : (allB a l).length = 5 + a.length + ((tokX l).length + 7) / 8 := by rw [allB, List.length_append, len_headB, length_bytesB]
theorem bit_tokB {k : TokD} : Bit (tokB FA FB k) := by
  have hA : ∀ i, Bit (FA.getD i []) := fun i => by
    rw [List.getD_eq_getElem?_getD]
    cases e : FA[i]? with
    | none => intro b hb; simp at hb
    | some w => exact bit_FA w (List.mem_of_getElem? e)
  have hB : ∀ i, Bit (FB.getD i []) := fun i => by
    rw [List.getD_eq_getElem?_getD]
    cases e : FB[i]? with
    | none => intro b hb; simp at hb
    | some w => exact bit_FB w (List.mem_of_getElem? e)
  unfold tokB
  split
  · exact hA _
  · exact (hA _).append ((bit_wordB _ _).reverse.append ((hB _).append (bit_wordB _ _).reverse))
theorem bit_toldB (l : List TokD) : Bit (toldB FA FB l) := by
  induction l with
  | nil =>
    rw [toldB]
    obtain ⟨w, hw, _⟩ := goodF.la 256 (by omega)
    rw [getD_some hw]
    exact bit_FA w (List.mem_of_getElem? hw)
  | cons k l ih => rw [told_cons]; exact bit_tokB.append ih
theorem bit_tokX (l : List TokD) : Bit (tokX l) := by
  have h : Bit [1, 1, 0] := by intro b hb; simp at hb; omega
  exact h.append (bit_toldB l)
/-- All of it, whatever is behind. -/
theorem infl_all {a want ex : List UInt8} {l : List TokD} (hn : a.length ≤ 200) (hr : rightF l [] = some want) (most : Nat) :
    inflI (allB a l ++ ex) most = if most < (a ++ want).length then .inl 8 else .inr (a ++ want, (allB a l).length) := by
  obtain ⟨z, hz⟩ := bitsL_bytes true (bit_tokX l)
  have ht : bitsL true (allB a l ++ ex) = bitsL true (headB a) ++ (tokX l ++ (z ++ bitsL true ex)) := by
    rw [allB, bitsL_append, bitsL_append, hz]; simp only [List.append_assoc]
  have hd : (bitsL true (allB a l ++ ex)).drop (8 * (5 + a.length)) = tokX l ++ (z ++ bitsL true ex) := by
    rw [ht]; exact List.drop_left' (by rw [length_bitsL, len_headB])
  have hlen : 8 * (5 + a.length) ≤ (bitsL true (allB a l ++ ex)).length := by rw [ht, List.length_append, length_bitsL, len_headB]; omega
  have hf : 8 * (allB a l ++ ex).length + 1 = 8 * (allB a l ++ ex).length - 1 + 1 + 1 := by
    have : 5 ≤ (allB a l ++ ex).length := by rw [List.length_append, len_allB]; omega
    omega
  rw [inflI, if_neg (by omega), Int.toNat_natCast, hf, infl_head hn most _ ht]
  by_cases hm : most < a.length
  · rw [if_pos hm, if_pos (by rw [List.length_append]; omega)]
  · rw [if_neg hm, infl_toks hr (by omega) hlen hd]
    by_cases hm2 : most < (a ++ want).length
    · rw [if_pos hm2, if_pos hm2]
    · rw [if_neg hm2, if_neg hm2]
      simp only
      congr 2
      rw [len_allB]; omega
theorem bitsL_takeB (bs : List UInt8) (m : Nat) : bitsL true (bs.take m) = (bitsL true bs).take (8 * m) := by
  conv => rhs; rw [← List.take_append_drop m bs, bitsL_append]
  by_cases h : m ≤ bs.length
  · rw [List.take_left' (by rw [length_bitsL, List.length_take, Nat.min_eq_left h])]
  · rw [List.drop_eq_nil_of_le (by omega), List.take_of_length_le (l := bs) (by omega)]
    rw [show bitsL true [] = [] from rfl, List.append_nil, List.take_of_length_le (by rw [length_bitsL]; omega)]
/-- Cut off. -/
theorem infl_cut {a want : List UInt8} {l : List TokD} (hn : a.length ≤ 200) (hr : rightF l [] = some want) (most : Nat) (hm : (a ++ want).length ≤ most) {m : Nat} (hlt : m < (allB a l).length) :
    inflI ((allB a l).take m) most = .inl 2 := by
  obtain ⟨z, hz⟩ := bitsL_bytes true (bit_tokX l)
  have hml : ((allB a l).take m).length = m := by rw [List.length_take]; omega
  rw [List.length_append] at hm
  rw [inflI, if_neg (by omega), Int.toNat_natCast, hml]
  have goal : ∀ f, 2 ≤ f ∨ m = 0 ∧ 1 ≤ f → inflF (bitsL true ((allB a l).take m)) most f 0 [] = .inl 2 := by
    intro f hf
    by_cases h0 : m = 0
    · subst h0
      obtain ⟨f, rfl⟩ : ∃ g, f = g + 1 := ⟨f - 1, by omega⟩
      rw [List.take_zero, inflF, if_pos (by simp [bitsL])]
    obtain ⟨f, rfl⟩ : ∃ g, f = g + 1 + 1 := ⟨f - 2, by omega⟩
    by_cases h5 : m < 5
    · -- within the five bytes ahead
      have e : (allB a l).take m = 0 :: ((allB a l).take m).tail := by
        cases m with
        | zero => exact absurd rfl h0
        | succ m => rfl
      rw [inflF]
      have hbl : (bitsL true ((allB a l).take m)).length = 8 * m := by rw [length_bitsL, hml]
      rw [if_neg (by omega)]
      have hv : vl (bitsL true ((allB a l).take m)) 0 3 = 0 := by
        rw [e, bitsL_cons]
        exact vl_000 _
      rw [hv, partF]
      simp only [Nat.reduceDiv, if_true, Nat.zero_add]
      rw [storedF]
      simp only [Nat.reduceAdd, Nat.reduceDiv, Nat.reduceMul]
      rw [if_pos (by omega)]
    by_cases hA : m < 5 + a.length
    · -- within the bytes
      have e : (allB a l).take m = [0, UInt8.ofNat a.length, 0, UInt8.ofNat (255 - a.length), 255] ++ a.take (m - 5) := by
        rw [allB, List.take_append_of_le_length (by rw [len_headB]; omega), headB, List.take_append, List.take_of_length_le (by simp; omega)]
        rfl
      obtain ⟨h1, h2, h3, h4⟩ := stored_five hn most (t := bitsL true ((allB a l).take m)) (u := bitsL true (a.take (m - 5))) (by rw [e, bitsL_append])
      rw [inflF, if_neg (by omega), h1, partF]
      simp only [Nat.reduceDiv, if_true, Nat.zero_add]
      rw [h2, bytes_cut a.length (a.take (m - 5)) 40 [] (by omega) h3 (by rw [List.length_take]; omega) (by simp; omega)]
    · -- within the tokens
      have e : (allB a l).take m = headB a ++ (bytesB true (tokX l)).take (m - (5 + a.length)) := by
        rw [allB, List.take_append, len_headB, List.take_of_length_le (by rw [len_headB]; omega)]
      have hk : 8 * (m - (5 + a.length)) < (tokX l).length := by rw [len_allB] at hlt; omega
      have e2 : bitsL true ((bytesB true (tokX l)).take (m - (5 + a.length))) = (tokX l).take (8 * (m - (5 + a.length))) := by
        rw [bitsL_takeB, hz, List.take_append_of_le_length (by omega)]
      have ht : bitsL true ((allB a l).take m) = bitsL true (headB a) ++ (tokX l).take (8 * (m - (5 + a.length))) := by rw [e, bitsL_append, e2]
      have hd : (bitsL true ((allB a l).take m)).drop (8 * (5 + a.length)) = (tokX l).take (8 * (m - (5 + a.length))) := by
        rw [ht]; exact List.drop_left' (by rw [length_bitsL, len_headB])
      rw [infl_head hn most _ ht, if_neg (by omega)]
      refine infl_toks_cut hr (by rw [List.length_append]; exact hm) (by rw [ht, List.length_append, length_bitsL, len_headB]; omega) hd ⟨(tokX l).drop (8 * (m - (5 + a.length))), ?_, List.take_append_drop _ _⟩
      intro h
      have := congrArg List.length h
      rw [List.length_drop] at this
      simp at this; omega
  rw [goal]
  by_cases h0 : m = 0
  · exact .inr ⟨h0, by omega⟩
  · exact .inl (by omega)
end Go.Proofs.YtddifndfppilkaaGreat
