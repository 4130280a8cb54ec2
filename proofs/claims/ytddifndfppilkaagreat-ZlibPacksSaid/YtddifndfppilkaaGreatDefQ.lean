/-
  Layer 10: the document's Kind and Right.
-/
import Derived.Test.YtddifndfppilkaaGreatLzM
import Derived.Test.YtddifndfppilkaaGreatRefB
import Derived.Test.YtddifndfppilkaaGreatRef02
namespace Go.Proofs.YtddifndfppilkaaGreat
open Go.RowKit Go.Mz
set_option linter.unusedVariables false
set_option linter.unusedSimpArgs false
set_option maxRecDepth 100000

/-- What the first byte's bits say. -/
theorem kind_bits {x z : List Nat} {last : Bool} {how : Nat} (hh : how < 4) (hx : x = headL last how ++ z) (hb : Bit x) {c : UInt8} {r : List UInt8} (hX : bytesB true x = c :: r) :
    numV true (fun i => (bitsL true [c]).getD (0 + i) 0) 3 / 2 = how := by
  obtain ⟨y, hy⟩ := bitsL_bytes true hb
  rw [hX, bitsL_cons, hx] at hy
  have e1 : bitsL true [c] = (wordB c.toNat 8).reverse := by rw [bitsL_cons]; simp [bitsL]
  rw [e1]
  have hl8 : (wordB c.toNat 8).reverse.length = 8 := by simp
  have hl3 := length_headL last how
  have hg : ∀ i, i < 3 → (wordB c.toNat 8).reverse.getD (0 + i) 0 = (headL last how).getD i 0 := fun i hi => by
    have h := congrArg (fun l => l.getD i 0) hy
    simp only [List.getD_eq_getElem?_getD] at h ⊢
    rw [List.append_assoc, List.getElem?_append_left (by omega), List.getElem?_append_left (by omega)] at h
    rw [Nat.zero_add]; exact h
  have e2 : numV true (fun i => (wordB c.toNat 8).reverse.getD (0 + i) 0) 3 = numV true (fun i => (headL last how).getD i 0) 3 := numV_congr true 3 hg
  rw [e2]
  have : how = 0 ∨ how = 1 ∨ how = 2 ∨ how = 3 := by omega
  rcases this with rfl | rfl | rfl | rfl <;> cases last <;> decide
set_option maxHeartbeats 40000000 in
theorem kind_any {w0 w : World} {F : SProp} (h : St w0 w F) {x z : List Nat} {last : Bool} {how : Nat} (hh : how < 4) (hx : x = headL last how ++ z) (hb : Bit x) (hl : x.length ≤ 1000000000) {X : List UInt8} (hX : bytesB true x = X) :
    Calls Tryz.prog 20 #[.string ⟨X.toArray⟩] w fun e w' => e = .returned (.int .i64 (how : Int)) ∧ St w0 w' F := by
  obtain ⟨c, r, rfl⟩ : ∃ c r, X = c :: r := by
    cases X with
    | nil =>
      have := congrArg List.length hX
      rw [length_bytesB', hx, List.length_append, length_headL] at this
      simp at this; omega
    | cons c r => exact ⟨c, r, rfl⟩
  have H := Lib.hid h
  have HK := Lib.hid (kind_bits hh hx hb hX)
  have hlen : r.length ≤ 200000000 := by
    have := congrArg List.length hX
    rw [length_bytesB', List.length_cons] at this
    omega
  clear h hx hb hl hX
  have hmn : (if (1 : Int) < (r.length : Int) + 1 then (1 : Int) else (r.length : Int) + 1) = 1 := by split <;> omega
  have hex : (⟨(c :: r).toArray⟩ : ByteArray).extract 0 1 = ⟨[c].toArray⟩ := by
    apply ByteArray.ext
    rw [ByteArray.data_extract]
    simp
  have hne : ((⟨(c :: r).toArray⟩ : ByteArray) == ⟨#[]⟩) = false := by
    show ((c :: r).toArray == (#[] : Array UInt8)) = false
    simp
  have hbl : Bit (bitsL true [c]) := bit_bitsL true [c]
  have h8 : (bitsL true [c]).length = 8 := by rw [length_bitsL]; rfl
  obtain ⟨v, hv⟩ : ∃ v, numV true (fun i => (bitsL true [c]).getD (0 + i) 0) 3 = v := ⟨_, rfl⟩
  rw [hv] at HK
  have hv8 : v < 8 := by have := numV_lt true (fun i => (bitsL true [c]).getD (0 + i) 0) (fun i => by rw [List.getD_eq_getElem?_getD]; cases e : (bitsL true [c])[0 + i]? with | none => simp | some b => have := hbl b (List.mem_of_getElem? e); simp; omega) 3; omega
  go_enter Tryz.func20, Tryz.ntmps20
  go_wp2_with (go_at_call 31; apply stop)
  refine on ?_
  refine (of_any [c] true H.out (by simp)).mono ?_
  rintro e w2 ⟨rfl, h2⟩
  have H2 := Lib.hid h2
  clear h2
  go_wp2_with (go_at_call 46; apply stop)
  refine on ?_
  refine (rpeek_any hbl 0 3 true w2 (by omega) (by omega) (by omega) rfl rfl).mono ?_
  rintro e w3 ⟨rfl, rfl⟩
  rw [hv]
  have hq : (v : Int).tdiv 2 = (how : Int) := by have := HK.out; rw [Int.tdiv_eq_ediv_of_nonneg (by omega)]; omega
  go_wp2_with fail
  go_ret
  exact ⟨rfl, H2.out⟩

set_option maxHeartbeats 40000000 in
theorem right10_any {w0 w : World} {F : SProp} (h : St w0 w F) {b : List UInt8} (hb : b.length ≤ 1000000) {how : Nat} (hh : how < 4) {x z : List Nat} {last : Bool} (hx : x = headL last how ++ z) {n : Nat} (hd : DoneS b x n) (hl : x.length ≤ 800000000) {X : List UInt8} (hX : bytesB true x = X) :
    Calls Tryz.prog 10 #[.string ⟨X.toArray⟩, .string ⟨b.toArray⟩, .int .i64 (how : Int)] w fun e w' => e = .returned (.bool true) ∧ St w0 w' F := by
  have hXl : X.length ≤ 100000000 := by rw [← hX, length_bytesB']; omega
  have C := rinflate_any h X (b.length : Int) hXl (by omega)
  have hi := hd.infl [] (b.length : Int)
  rw [List.append_nil, hX, if_neg (by omega), if_neg (by omega)] at hi
  rw [hi] at C
  have HC := Lib.hid C
  have HK := Lib.hid fun W (hW : St w0 W F) => kind_any hW hh hx hd.bit (by omega) hX
  obtain ⟨nX, hnX⟩ : ∃ nX, X.length = nX := ⟨_, rfl⟩
  obtain ⟨nb, hnb⟩ : ∃ nb, b.length = nb := ⟨_, rfl⟩
  rw [hnX] at HC hXl
  rw [hnb] at HC hb
  clear C hi h hx hd hl hX
  go_enter Tryz.func10, Tryz.ntmps10
  go_wp2_with (go_at_call 14; apply stop)
  refine on ?_
  refine HC.out.mono ?_
  rintro e w2 ⟨s, k, x, rfl, ⟨rfl, rfl, rfl⟩, h2⟩
  have H2 := Lib.hid h2
  have hkk : ((k : Int) == (X.length : Int)) = true := by rw [hnX]; simp
  clear h2 HC hnX hnb
  go_wp2_with (go_at_call 20; apply stop)
  refine on ?_
  refine (HK.out _ H2.out).mono ?_
  rintro e w3 ⟨rfl, h3⟩
  have H3 := Lib.hid h3
  clear h3
  go_wp2_with fail
  go_ret
  exact ⟨rfl, H3.out⟩
end Go.Proofs.YtddifndfppilkaaGreat
