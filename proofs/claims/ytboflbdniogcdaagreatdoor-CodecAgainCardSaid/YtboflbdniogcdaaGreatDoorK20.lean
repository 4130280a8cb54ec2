/-
  Parts of a proof.
-/
import Derived.Test.YtboflbdniogcdaaGreatDoorK00
import Derived.Test.YtboflbdniogcdaaGreatDoorK17
import Derived.Test.YtboflbdniogcdaaGreatDoorK18
import Derived.Test.YtboflbdniogcdaaGreatDoorK19
set_option linter.unusedVariables false
set_option linter.unusedSimpArgs false
set_option maxRecDepth 100000
set_option maxHeartbeats 100000000
namespace Go.Proofs.YtboflbdniogcdaaGreatDoor
open Go.RowKit Go.Mz
theorem wU {l:List Nat} (h:Bit l):eE (tx l)=l:=by
 induction l with
 | nil=>rfl
 | cons c l ih=>
  have:=h c (by simp);rw[rt,eE,cO,ru this];rw[eE] at ih;rw[ih fun b hb=>h b (by simp [hb])];simp
theorem wV {l:List Nat} (h:Bit l):kY (tx l)=true:=by
 induction l with
 | nil=>rfl
 | cons c l ih=>
  have h1:=ih fun b hb=>h b (by simp [hb])
  rw[rt];simp only[kY,List.all_cons,cR] at h1 ⊢;refine⟨?_,h1⟩;have:=h c (by simp)
  rcases(show c=0∨c=1 by omega) with rfl | rfl <;> rfl
def wW (r:Nat × (Nat ⊕ Nat)) (p:Nat) (M:List Int) (z:Int) (x p':Nat):Prop:=
 p'=p+r.1∧match r.2 with
 | .inl i=>x=0∧z=M.getD i 0
 | .inr e=>x=e∧z=0
def bD (B:Nat) (W:List (List Nat)) (M:List Int):SProp:=fx fun N:List Nd=>il (Trie N W)*nB B N M (W.map tx)
theorem wX {w0 w:World} {B:Nat} {W:List (List Nat)} {M:List Int} {F:SProp} (h:St w0 w (bD B W M*F)):∃ N,Trie N W∧St w0 w (nB B N M (W.map tx)*F):=by
 obtain⟨N,h⟩:=h.ex_l;have h:=h.perm (aW _ _ _);obtain⟨h1,h2⟩:=h.pure_l;exact⟨N,h1,h2⟩
theorem sv {w0 w:World} {B:Nat} {N:List Nd} {W:List (List Nat)} {M:List Int} {F:SProp} (hT:Trie N W) (h:St w0 w (nB B N M (W.map tx)*F)):St w0 w (bD B W M*F):=
 St.mk_ex_l N ((St.mk_pure_l hT h).perm (aW _ _ _).symm)
theorem DQ {w0 w:World} {F:SProp} {B Rb:Nat} {W:List (List Nat)} {M:List Int} {bs:List UInt8} {p:Nat} {low:Bool} (h:St w0 w (bD B W M*(aq Rb bs p low*F))) (hM:M.length=W.length) (hp:p≤8*bs.length):
  Calls Tryz.prog 189 #[.pointer (some ⟨B,0,none⟩),.pointer (some ⟨Rb,0,none⟩)] w fun e w'=>∃ (z:Int) (x p':Nat),
   e= .returned (.tuple #[.int .i64 z,.int .i64 (x:Nat)])∧wW (aX W [] ((ag low bs).drop p)) p M z x p'∧St w0 w' (bD B W M*(aq Rb bs p' low*F)):=by
 obtain⟨N,hT,h⟩:=wX h;have hM:ny N M.length:=by rw[hM];exact hT.means
 refine(ss (.inr rfl) h hT.1 hM hp (sj hT bs low p hp)).mono ?_;rintro e w' ⟨rfl,h2⟩;have h3:St w0 w' (bD B W M*(aq Rb bs (p+(aX W [] ((ag low bs).drop p)).1) low*F)):=sv hT h2;generalize aX W [] ((ag low bs).drop p)=r at*
 obtain⟨k,r⟩:=r;cases r with
 | inl i=>exact⟨M.getD i 0,0,p+k,rfl,⟨rfl,rfl,rfl⟩,h3⟩
 | inr er=>exact⟨0,er,p+k,rfl,⟨rfl,rfl,rfl⟩,h3⟩
theorem DR {w0 w:World} {F:SProp} {W:List (List Nat)} {M:List Int} {n:Nat} {vm vw:Value} (h:St w0 w (own 3 1 vm n (M.map iv)*(own 9 1 vw n (W.map cA)*F))) (hn:n=W.length) (hM:M.length=W.length)
  (hb:∀ w∈W,Bit w) (pf:PF W) (hl:W.length≤900) (h30:∀ w∈W,w.length≤1000):
  Calls Tryz.prog 138 #[vw,vm] w fun e w'=>∃ B,e= .returned (.tuple #[.pointer (some ⟨B,0,none⟩),.int .i64 0])∧St w0 w' (bD B W M*F):=by
 subst hn;obtain⟨N,hN,hT⟩:=pG hb pf;have e1:W.map cA=(W.map tx).map bN:=by rw[eU];rfl
 have hwl:(W.map tx).length=W.length:=by simp
 rw[e1] at h;have C:=sq (.inr ⟨rfl,rfl,rfl⟩) (vw:=vw) (vm:=vm) h (W.map tx) M (by rw[hM,hwl]) (by rw[hwl];exact hl) (fun i t ht=>by
  rw[aC] at ht;cases e:W[i]? with
  | none=>rw[e] at ht;cases ht
  | some v=>
   rw[e] at ht;cases ht;rw[m6];exact h30 v (aI e)) (fun w h=>by rw[hwl];exact h.right.reads) (fun w h=>by rw[hM];exact h.reads) hN
 refine C.mono ?_;rintro e w'' ⟨hok,_⟩;obtain⟨B,he,h5,_⟩:=hok rfl;have h6:=((h5.perm (ak _ _ _)).right.perm (ak _ _ _)).right;exact⟨B,he,sv hT h6⟩
theorem sw {w0 w:World} {F:SProp} {B Wb:Nat} {W:List (List Nat)} {M:List Int} {l:List Nat} {low:Bool} (h:St w0 w (bD B W M*(aB Wb l low*F))) {j:Int} (i:Nat) (hj:j=i) {v:List Nat} (hi:W[i]? =some v) (hv:v≠[]) (hb:Bit v) (h30:v.length≤1000) (hm:l.length≤10000000000000):
  Calls Tryz.prog 181 #[.pointer (some ⟨B,0,none⟩),.pointer (some ⟨Wb,0,none⟩),.int .i64 j] w fun e w'=>e= .returned (.int .i64 0)∧St w0 w' (bD B W M*(aB Wb (l++v) low*F)):=by
 subst hj;obtain⟨N,hT,h⟩:=wX h;have hil:i<W.length:=by obtain⟨hx,_⟩:=cG.1 hi;exact hx
 have e:fE (W.map tx) (i:Int)=tx v:=by
  rw[fE,if_pos (by rw[bS];omega),eT,List.getD_eq_getElem?_getD,aC,hi];rfl
 have hne:tx v≠[]:=fun h0=>hv (by simpa [tx] using h0)
 refine(su (.inl rfl) h (wT h) (i:Int) (by rw[e];exact wV hb) (by rw[e,m6];omega) hm).mono ?_;rintro e' w' ⟨rfl,h2⟩;rw[e,if_neg hne,wU hb] at*
 exact⟨rfl,sv hT h2⟩
def en (B:Nat) (W:List (List Nat)) (M:List Int):SProp:=fx fun N:List Nd=>il (Trie N W)*sp B N M (W.map tx)
theorem wY {w0 w:World} {B:Nat} {W:List (List Nat)} {M:List Int} {F:SProp} (h:St w0 w (en B W M*F)):∃ N,Trie N W∧St w0 w (sp B N M (W.map tx)*F):=by
 obtain⟨N,h⟩:=h.ex_l;have h:=h.perm (aW _ _ _);obtain⟨h1,h2⟩:=h.pure_l;exact⟨N,h1,h2⟩
theorem sx {w0 w:World} {B:Nat} {N:List Nd} {W:List (List Nat)} {M:List Int} {F:SProp} (hT:Trie N W) (h:St w0 w (sp B N M (W.map tx)*F)):St w0 w (en B W M*F):=
 St.mk_ex_l N ((St.mk_pure_l hT h).perm (aW _ _ _).symm)
theorem DS {w0 w:World} {F:SProp} {B Rb:Nat} {W:List (List Nat)} {M:List Int} {bs:List UInt8} {p:Nat} {low:Bool} (h:St w0 w (en B W M*(aq Rb bs p low*F))) (hM:M.length=W.length) (hp:p≤8*bs.length):
  Calls Tryz.prog 194 #[.pointer (some ⟨B,0,none⟩),.pointer (some ⟨Rb,0,none⟩)] w fun e w'=>∃ (z:Int) (x p':Nat),
   e= .returned (.tuple #[.int .i64 z,.int .i64 (x:Nat)])∧wW (aX W [] ((ag low bs).drop p)) p M z x p'∧St w0 w' (en B W M*(aq Rb bs p' low*F)):=by
 obtain⟨N,hT,h⟩:=wY h;have hM:ny N M.length:=by rw[hM];exact hT.means
 refine(ss (.inl rfl) h hT.1 hM hp (sj hT bs low p hp)).mono ?_;rintro e w' ⟨rfl,h2⟩;have h3:St w0 w' (en B W M*(aq Rb bs (p+(aX W [] ((ag low bs).drop p)).1) low*F)):=sx hT h2;generalize aX W [] ((ag low bs).drop p)=r at*
 obtain⟨k,r⟩:=r;cases r with
 | inl i=>exact⟨M.getD i 0,0,p+k,rfl,⟨rfl,rfl,rfl⟩,h3⟩
 | inr er=>exact⟨0,er,p+k,rfl,⟨rfl,rfl,rfl⟩,h3⟩
theorem DT {w0 w:World} {F:SProp} {W:List (List Nat)} {M:List Int} {n:Nat} {vm vw:Value} (h:St w0 w (own 196 1 vm n (M.map iv)*(own 9 1 vw n (W.map cA)*F))) (hn:n=W.length) (hM:M.length=W.length)
  (hb:∀ w∈W,Bit w) (pf:PF W) (hl:W.length≤900) (h30:∀ w∈W,w.length≤1000):
  Calls Tryz.prog 140 #[vw,vm] w fun e w'=>∃ B,e= .returned (.tuple #[.pointer (some ⟨B,0,none⟩),.int .i64 0])∧St w0 w' (en B W M*F):=by
 subst hn;obtain⟨N,hN,hT⟩:=pG hb pf;have e1:W.map cA=(W.map tx).map bN:=by rw[eU];rfl
 have hwl:(W.map tx).length=W.length:=by simp
 rw[e1] at h;have C:=sq (.inl ⟨rfl,rfl,rfl⟩) (vw:=vw) (vm:=vm) h (W.map tx) M (by rw[hM,hwl]) (by rw[hwl];exact hl) (fun i t ht=>by
  rw[aC] at ht;cases e:W[i]? with
  | none=>rw[e] at ht;cases ht
  | some v=>
   rw[e] at ht;cases ht;rw[m6];exact h30 v (aI e)) (fun w h=>by rw[hwl];exact h.right.reads) (fun w h=>by rw[hM];exact h.reads) hN
 refine C.mono ?_;rintro e w'' ⟨hok,_⟩;obtain⟨B,he,h5,_⟩:=hok rfl;have h6:=((h5.perm (ak _ _ _)).right.perm (ak _ _ _)).right;exact⟨B,he,sx hT h6⟩
theorem DU {w0 w:World} {F:SProp} {B Wb:Nat} {W:List (List Nat)} {M:List Int} {l:List Nat} {low:Bool} (h:St w0 w (en B W M*(aB Wb l low*F))) {j:Int} (i:Nat) (hj:j=i) {v:List Nat} (hi:W[i]? =some v) (hv:v≠[]) (hb:Bit v) (h30:v.length≤1000) (hm:l.length≤10000000000000):
  Calls Tryz.prog 182 #[.pointer (some ⟨B,0,none⟩),.pointer (some ⟨Wb,0,none⟩),.int .i64 j] w fun e w'=>e= .returned (.int .i64 0)∧St w0 w' (en B W M*(aB Wb (l++v) low*F)):=by
 subst hj;obtain⟨N,hT,h⟩:=wY h;have hil:i<W.length:=by obtain⟨hx,_⟩:=cG.1 hi;exact hx
 have e:fE (W.map tx) (i:Int)=tx v:=by
  rw[fE,if_pos (by rw[bS];omega),eT,List.getD_eq_getElem?_getD,aC,hi];rfl
 have hne:tx v≠[]:=fun h0=>hv (by simpa [tx] using h0)
 refine(su (.inr (.inl rfl)) h (wT h) (i:Int) (by rw[e];exact wV hb) (by rw[e,m6];omega) hm).mono ?_;rintro e' w' ⟨rfl,h2⟩;rw[e,if_neg hne,wU hb] at*
 exact⟨rfl,sx hT h2⟩
end Go.Proofs.YtboflbdniogcdaaGreatDoor
