/-
  Layer 23: fields sorted by their tags (slices.SortFunc over the kit's contract).
-/
import Derived.Test.YthoegjdkeooenaaTagQ
import Derived.Test.YthoegjdkeooenaaSrt
import Derived.Shelf.SlSortCmp.WholeK
namespace Go.Proofs.Ythoegjdkeooenaa
open Go.RowKit Go.Mz Go.Sort
set_option linter.unusedVariables false
set_option linter.unusedSimpArgs false
set_option maxRecDepth 100000

/-- A field whose values lie in a slice. -/
structure FA where
  a : Option Addr
  n : Nat
  c : Nat
  f : Fld
instance : Inhabited FA := ⟨⟨none, 0, 0, ⟨0, 0, []⟩⟩⟩
def FA.fv (x : FA) : FV := (.slice x.a x.n x.c, x.f)
def FA.enc (x : FA) : List Value := fldC x.fv
theorem fa_of : ∀ {L : List FV}, (∀ y ∈ L, ∃ a n c, y.1 = .slice a n c) → ∃ M : List FA, M.map FA.fv = L
  | [], _ => ⟨[], rfl⟩
  | y :: L, h => by
    obtain ⟨M, hM⟩ := fa_of (L := L) fun z hz => h z (List.mem_cons_of_mem _ hz)
    obtain ⟨a, n, c, e⟩ := h y List.mem_cons_self
    refine ⟨⟨a, n, c, y.2⟩ :: M, ?_⟩
    rw [List.map_cons, hM]
    show ((Value.slice a n c, y.2) : FV) :: L = y :: L
    rw [← e]
def cfF (x y : FA) : Int := cmpT x.f.tag y.f.tag
theorem lt_cfF (x y : FA) : ltOf cfF x y = decide (x.f.tag < y.f.tag) := by
  unfold ltOf cfF cmpT
  by_cases h : x.f.tag < y.f.tag
  · simp [h]
  · by_cases h2 : y.f.tag < x.f.tag <;> simp [h, h2]
theorem swo_cfF : SWO (ltOf cfF) where
  irrefl x := by rw [lt_cfF]; simp
  trans x y z h1 h2 := by rw [lt_cfF] at *; simp at *; omega
  ntrans x y z h1 h2 := by rw [lt_cfF] at *; simp at *; omega
theorem flatK_list (d : Array FA) : (flatK FA.enc 3 d).toList = (d.toList.map FA.fv).flatMap fldC := by
  refine List.ext_getElem? fun t => ?_
  by_cases ht : t < d.size * 3
  · have h1 : (flatK FA.enc 3 d)[t]! = (FA.enc d[t / 3]!)[t % 3]! := get_flatK _ _ _ _ ht
    have hd : t / 3 < d.size := by omega
    have hm : t % 3 < 3 := Nat.mod_lt _ (by decide)
    have hx : (d.toList.map FA.fv)[t / 3]? = some (FA.fv d[t / 3]!) := by
      rw [List.getElem?_map, Array.getElem?_toList, Array.getElem?_eq_getElem hd, getElem!_pos d _ hd]; rfl
    have h2 := flat_get fldC 3 (fun _ => rfl) (d.toList.map FA.fv) (t / 3) _ hx (t % 3) hm
    rw [show t / 3 * 3 + t % 3 = t by omega] at h2
    rw [h2]
    have hs : t < (flatK FA.enc 3 d).size := by rw [size_flatK]; exact ht
    rw [Array.getElem?_toList, Array.getElem?_eq_getElem hs]
    rw [getElem!_pos (flatK FA.enc 3 d) t hs] at h1
    rw [h1]
    have hl : t % 3 < (FA.enc d[t / 3]!).length := hm
    rw [getElem!_pos (FA.enc d[t / 3]!) (t % 3) hl]
    exact (List.getElem?_eq_getElem hl).symm
  · rw [List.getElem?_eq_none (by rw [Array.length_toList, size_flatK]; omega), List.getElem?_eq_none]
    have : ∀ l : List FV, (l.flatMap fldC).length = l.length * 3 := fun l => by
      induction l with
      | nil => rfl
      | cons x l ih => rw [List.flatMap_cons, List.length_append, ih, List.length_cons]; show 3 + _ = _; omega
    rw [this]
    simp; omega
/-- The world in which the row was sorted. -/
theorem St.sorted {w0 w : World} {b : Nat} {cur : Array Value} {e : TypeId} {G : SProp} (h : St w0 w (blk b (.cells cur e (0, 0)) * G)) (n : Nat) (d : Array FA) (os : Array Obj) :
    St w0 (sortWorldK FA.enc 3 w b 0 n d os) (blk b (.cells (putCells id 0 (flatK FA.enc 3 d) cur) e (0, 0)) * G) := by
  have hb := h.lt
  have hat := h.at_
  refine h.upd rfl rfl rfl ?_ ?_ fun k hk hne => ?_
  · show w.heap.size ≤ (_ ++ os).size
    rw [Array.size_append]
    have : (putRowK FA.enc 3 (Sort.ahead w n) b 0 d).heap.size = w.heap.size := by unfold putRowK; rw [size_putRow]; rfl
    omega
  · show (_ ++ os)[b]? = _
    have hs : (putRowK FA.enc 3 (Sort.ahead w n) b 0 d).heap.size = w.heap.size := by unfold putRowK; rw [size_putRow]; rfl
    rw [Array.getElem?_append_left (by rw [hs]; exact hb)]
    simp [putRowK, putRow, mapBlock, Sort.ahead, Array.getElem?_modify, hat, onCells]
  · show (_ ++ os)[k]? = _
    have hs : (putRowK FA.enc 3 (Sort.ahead w n) b 0 d).heap.size = w.heap.size := by unfold putRowK; rw [size_putRow]; rfl
    rw [Array.getElem?_append_left (by rw [hs]; exact hk)]
    simp [putRowK, putRow, mapBlock, Sort.ahead, Array.getElem?_modify, Ne.symm hne]
set_option maxHeartbeats 4000000 in
theorem closure4 (x y : FA) (W : World) : Calls Try.prog 40 #[.agg (FA.enc x).toArray, .agg (FA.enc y).toArray] W fun e w' => e = .returned (.int .i64 (cfF x y)) ∧ ∃ q os', w' = grow (W.drewN q) os' := by
  have hcon := fun W' => compare16_any (w := W') x.f.tag y.f.tag
  unfold cfF
  show Calls _ _ #[.agg #[.int .u16 (x.f.tag : Int), .int .i64 x.f.kind, .slice x.a x.n x.c], .agg #[.int .u16 (y.f.tag : Int), .int .i64 y.f.kind, .slice y.a y.n y.c]] _ _
  generalize cmpT x.f.tag y.f.tag = r at hcon ⊢
  go_enter Try.func40, Try.ntmps40
  go_wp2_with (go_at_call 41; refine (hcon _).mono ?_; rintro e w' ⟨rfl, rfl⟩)
  go_ret
  exact ⟨rfl, 0, _, by rw [alloc_eq_grow, alloc_eq_grow, grow_grow]; rfl⟩
set_option maxHeartbeats 4000000 in
theorem sort_any {w0 w : World} {G : SProp} {v : Value} {L : List FV} (h : St w0 w (own 53 3 v L.length (L.flatMap fldC) * G)) (hone : ∀ y ∈ L, ∃ a n c, y.1 = .slice a n c) (hL : L.length ≤ 1000000) (hne : 0 < L.length) :
    Calls Try.prog 39 #[v, .func (.func 40) #[] #[]] w fun e w' =>
      e = .returned (.tuple #[]) ∧ ∃ L' : List FV, L'.Perm L ∧ (L'.Pairwise fun a b => a.2.tag ≤ b.2.tag) ∧ St w0 w' (own 53 3 v L'.length (L'.flatMap fldC) * G) := by
  obtain ⟨M, rfl⟩ := fa_of hone
  obtain ⟨hl, ⟨_, h0, _⟩ | ⟨g, cap, cur, rfl, h1, h2, h3, h4, hB⟩⟩ := h.own_split
  · omega
  have eg : ∀ args w, (callFunc 40 args).run Try.prog w = .ok (.enter 40 args) w := fun args w => enters_fn Try.func40 (by kernel_rfl) rfl args w
  have hsz : M.toArray.size = (M.map FA.fv).length := by simp
  have hF : (flatK FA.enc 3 M.toArray).toList = (M.map FA.fv).flatMap fldC := flatK_list _
  have hH : HoldsK FA.enc 3 w g 0 M.toArray := fun j hj => by
    rw [size_flatK, hsz] at hj
    refine ⟨?_, hB.free _⟩
    have hjF : j < (flatK FA.enc 3 M.toArray).size := by rw [size_flatK, hsz]; exact hj
    rw [Nat.zero_add, hB.cells, getElem!_pos (flatK FA.enc 3 M.toArray) j hjF]
    have e1 : (flatK FA.enc 3 M.toArray)[j]? = ((M.map FA.fv).flatMap fldC)[j]? := by rw [← hF, Array.getElem?_toList]
    rw [Array.getElem?_eq_getElem hjF, ← h4, List.getElem?_take_of_lt hj, Array.getElem?_toList] at e1
    exact e1.symm
  have hcon := AnyQ.slices_SortFunc Try.sortFld 3 Try.isAgg53 Try.sizeOf53 FA.enc (fun _ => rfl) (fun x u hu => by
      simp only [FA.enc, fldC, FA.fv, List.mem_cons, List.not_mem_nil, or_false] at hu
      rcases hu with rfl | rfl | rfl <;> rfl) cfF swo_cfF 40 #[] g 0 cap M.toArray w eg (fun _ _ _ _ x y => closure4 x y _) hH hB.lt (by rw [hsz]; omega)
  change Calls Try.prog 39 _ _ _ at hcon
  rw [hsz] at hcon
  refine hcon.mono ?_
  rintro e w' ⟨rfl, d', n, os, hp, hs, rfl⟩
  obtain ⟨p1, p2, p3⟩ := hp
  have hd : d'.size = (M.map FA.fv).length := p1.trans hsz
  refine ⟨rfl, d'.toList.map FA.fv, ?_, ?_, ?_⟩
  · refine List.Perm.map _ ?_
    have e1 : (d'.extract 0 (M.map FA.fv).length).toList = d'.toList := by
      rw [← hd]; simp
    have e2 : (M.toArray.extract 0 (M.map FA.fv).length).toList = M := by simp
    rw [e1, e2] at p3
    exact p3
  · rw [List.pairwise_map, List.pairwise_iff_getElem]
    intro i j hi hj hij
    have hj' : j < d'.size := by simpa using hj
    have hi' : i < d'.size := by simpa using hi
    have := hs i j (Nat.zero_le _) hij (by rw [← hd]; exact hj')
    rw [lt_cfF, getElem!_pos d' j hj', getElem!_pos d' i hi'] at this
    simp only [decide_eq_false_iff_not, Nat.not_lt] at this
    simpa [FA.fv] using this
  · have hS := St.sorted hB n d' os
    have e3 : (d'.toList.map FA.fv).length = (M.map FA.fv).length := by rw [List.length_map, Array.length_toList, hd]
    rw [e3]
    refine hS.own_blk h1 h2 (by unfold putCells; rw [Array.size_mapIdx]; exact h3) ?_
    rw [← flatK_list]
    refine List.ext_getElem? fun t => ?_
    by_cases ht : t < (M.map FA.fv).length * 3
    · have htF : t < (flatK FA.enc 3 d').size := by rw [size_flatK, hd]; exact ht
      have htc : t < cur.size := by rw [h3]; exact Nat.lt_of_lt_of_le ht (Nat.mul_le_mul_right _ h1)
      rw [List.getElem?_take_of_lt ht, Array.getElem?_toList, Array.getElem?_toList, putCells, Array.getElem?_mapIdx, Array.getElem?_eq_getElem htc, Array.getElem?_eq_getElem htF]
      simp only [Option.map_some, Nat.zero_le, true_and, Nat.zero_add, htF, if_true, Nat.sub_zero, id]
      rw [getElem!_pos (flatK FA.enc 3 d') t htF]
    · rw [List.getElem?_eq_none (by rw [List.length_take]; omega), List.getElem?_eq_none (by rw [Array.length_toList, size_flatK, hd]; omega)]
end Go.Proofs.Ythoegjdkeooenaa
