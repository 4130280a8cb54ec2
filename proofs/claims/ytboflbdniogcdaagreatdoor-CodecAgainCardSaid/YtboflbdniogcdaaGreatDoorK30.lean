/-
  Parts of a proof.
-/
import Derived.Test.YtboflbdniogcdaaGreatDoorK00
import Derived.Test.YtboflbdniogcdaaGreatDoorK29
import Derived.Test.YtboflbdniogcdaaGreatDoorK28
import Derived.Deep.LoopGhost
import Derived.Deep.QuietTactic
import Derived.BigQuiet
import Derived.Test.YtboflbdniogcdaaGreatDoorChecked
import Derived.Test.YtboflbdniogcdaaGreatDoorK01
import Derived.WalkLawsBesides
import Derived.Test.YtboflbdniogcdaaGreatDoorK05
import Derived.Test.YtboflbdniogcdaaGreatDoorK14
import Derived.RegionTactic
import Derived.BigRegion
import Derived.Test.YtboflbdniogcdaaGreatDoorK15
import Derived.Test.YtboflbdniogcdaaGreatDoorK16
import Derived.Test.YtboflbdniogcdaaGreatDoorK18
set_option linter.unusedVariables false
set_option linter.unusedSimpArgs false
set_option maxRecDepth 100000
set_option maxHeartbeats 100000000
namespace Go.Proofs.YtboflbdniogcdaaGreatDoor
open Go.RowKit Go.Mz
theorem G8 (l:List Nat):dJ (l.map fun(n:Nat)=>(n:Int))=l:=by
 induction l with
 | nil=>rfl
 | cons x l ih=>simp only[dJ,cO,eT] at ih ⊢;rw[ih]
theorem tK {l:List Nat} (ok:OkC l) (h30:∀ n∈l,n≤30):du (l.map fun(n:Nat)=>(n:Int))=(aF l,fullC l,0):=by
 rw[du,G8,if_neg,if_pos ok];rintro⟨x,hx,h⟩;obtain⟨n,hn,rfl⟩:=cu.1 hx;have:=h30 n hn;omega
theorem tL {l:List Nat} (ok:OkC l) (h30:∀ n∈l,n≤30) (hf:fullC l=true) (how:Nat):dd l how= .inr (aF l):=by
 rw[dd,tK ok h30];simp [hf]
theorem G9 {l:List Nat} (ok:OkC l) (h30:∀ n∈l,n≤30) (hu:usedL l≤1) (hl:longL l≤1):dd l 1= .inr (aF l):=by
 rw[dd,tK ok h30];simp only;rw[if_neg (by simp),if_neg (by omega)]
theorem lA {l:List Nat} {i:Nat} (hi:i<l.length) (h:0<l.getD i 0):∃ w,(aF l)[i]? =some w∧w≠[]:=
 ⟨gW l i,sC hi,fun h0=>by have:=congrArg List.length h0;rw[iU] at this;simp only[bI] at this;omega⟩
def StepRn (all:List Nat) (i:Nat) (r:Nat × Nat × Nat) (j:Nat):Prop:=
 j≤all.length∧((r.1<16∧r.2.1=0∧r.2.2=0∧j=i+1∧all.getD i 0=r.1)∨
 (r.1=16∧r.2.2=2∧r.2.1<4∧0<i∧j=i+(3+r.2.1)∧∀ t,i≤t→t<j→all.getD t 0=all.getD (i-1) 0)∨
 (r.1=17∧r.2.2=3∧r.2.1<8∧j=i+(3+r.2.1)∧∀ t,i≤t→t<j→all.getD t 0=0)∨
 (r.1=18∧r.2.2=7∧r.2.1<128∧j=i+(11+r.2.1)∧∀ t,i≤t→t<j→all.getD t 0=0))
def RunsTo (all:List Nat):Nat→List (Nat × Nat × Nat)→Nat→Prop
 | i,[],j=>i=j
 | i,r::R,j=>∃ m,StepRn all i r m∧RunsTo all m R j
theorem RunsTo.snoc {all:List Nat} {r:Nat × Nat × Nat} {m:Nat}:∀ {R:List (Nat × Nat × Nat)} {i j:Nat},RunsTo all i R j→StepRn all j r m→RunsTo all i (R++[r]) m:=by
 intro R
 induction R with
 | nil=>intro i j h s;cases h;exact⟨m,s,rfl⟩
 | cons x R ih=>rintro i j ⟨y,h1,h2⟩ s;exact⟨y,h1,ih h2 s⟩
theorem StepRn.lt {all:List Nat} {i j:Nat} {r:Nat × Nat × Nat} (h:StepRn all i r j):i<j∧j≤all.length:=by
 obtain⟨h0,h | h | h | h⟩:=h <;> omega
theorem RunsTo.le {all:List Nat}:∀ {R:List (Nat × Nat × Nat)} {i j:Nat},RunsTo all i R j→i≤all.length→i≤j∧j≤all.length∧R.length≤j-i:=by
 intro R
 induction R with
 | nil=>intro i j h hi;cases h;simp;exact hi
 | cons r R ih=>
  rintro i j ⟨m,h1,h2⟩ hi;obtain⟨g1,g2⟩:=h1.lt;obtain⟨g3,g4,g5⟩:=ih h2 g2;rw[aO];omega
theorem StepRn.sym {all:List Nat} {i j:Nat} {r:Nat × Nat × Nat} (h:StepRn all i r j):r.1≤18∧r.2.1<2^r.2.2:=by
 obtain⟨h0,h | h | h | h⟩:=h
 ·rw[h.2.1,h.2.2.1];exact⟨by omega,by decide⟩
 ·rw[h.2.1];exact⟨by omega,by omega⟩
 ·rw[h.2.1];exact⟨by omega,by omega⟩
 ·rw[h.2.1];exact⟨by omega,by omega⟩
def dw (W:List (List Nat)) (r:Nat × Nat × Nat):List Nat:=W.getD r.1 []++(aE r.2.1 r.2.2).reverse
theorem tM {all:List Nat} {v:Nat}:∀ (m i:Nat),i+m≤all.length→(∀ t,i≤t→t<i+m→all.getD t 0=v)→all.take i++List.replicate m v=all.take (i+m):=by
 intro m
 induction m with
 | zero=>intro i _ _;simp
 | succ m ih=>
  intro i hi h;rw[iO,← List.append_assoc,ih i (by omega) fun t a b=>h t a (by omega),show i+(m+1)=i+m+1 by omega,List.take_succ_eq_append_getElem (by omega)]
  congr 2
  have:=h (i+m) (by omega) (by omega);rw[List.getD_eq_getElem?_getD,au (by omega)] at this;exact this.symm
theorem oe {all:List Nat} {j:Nat} (h:j≤all.length):(all.take j).length=j:=by rw[aL];omega
theorem Ha {all:List Nat} {i k:Nat} (h:k<i):(all.take i).getD k 0=all.getD k 0:=by
 rw[List.getD_eq_getElem?_getD,fP,if_pos h,← List.getD_eq_getElem?_getD]
theorem yS {t r:List Nat} {W:List (List Nat)} (pf:PF W) {all:List Nat} {i j f p:Nat} {x:Nat × Nat × Nat} (h:StepRn all i x j) (hw:∃ w,W[x.1]? =some w∧w≠[]) (hp:p≤t.length) (ht:t.drop p=dw W x++r):
  dv t W all.length (f+1) (all.take i) p=dv t W all.length f (all.take j) (p+(dw W x).length):=by
 obtain⟨w,hw1,hw2⟩:=hw;obtain⟨hl1,hl2⟩:=h.lt;have hsym:=h.sym;unfold dw at ht ⊢;rw[getD_some hw1] at ht ⊢;rw[List.append_assoc] at ht;have e1:=cC ht;have l1:p+w.length≤t.length:=by have:=cg ht (.inr hp);rw[ae] at this;omega
 have hll:=cg e1 (.inr l1);rw[ae] at hll;have hwl:(aE x.2.1 x.2.2).reverse.length=x.2.2:=by simp
 rw[hwl] at hll;rw[dv,if_pos (by rw[oe (by omega)];omega),ht,kA pf hw1 hw2];simp only;have hv:vl t (p+w.length) x.2.2=x.2.1:=fZ e1 hsym.2;obtain⟨h0,h | h | h | h⟩:=h
 ·obtain⟨g1,g2,g3,g4,g5⟩:=h;have e:all.take i++[x.1]=all.take (i+1):=by
   rw[List.take_succ_eq_append_getElem (by omega)]
   congr 2
   rw[List.getD_eq_getElem?_getD,au (by omega)] at g5;exact g5.symm
  rw[if_pos g1,e,g4,ae,hwl,g3];rfl
 ·obtain⟨g1,g2,g3,g4,g5,g6⟩:=h;rw[if_neg (by omega),g1,if_neg (fun e=>by have:=congrArg List.length e.2;rw[oe (by omega),bI] at this;omega)];simp only[if_true,show ¬ (16:Nat)=18 by decide,if_false];rw[g2] at hll hv hwl;rw[if_neg (by omega),hv,oe (by omega),Ha (by omega),tM _ _ (by omega) (by rw[← g5];exact g6),← g5,ae,g2,hwl,da]
 ·obtain⟨g1,g2,g3,g5,g6⟩:=h;rw[if_neg (by omega),g1,if_neg (fun e=>by omega)];simp only[show ¬ (17:Nat)=18 by decide,show ¬ (17:Nat)=16 by decide,if_false];rw[g2] at hll hv hwl;rw[if_neg (by omega),hv,tM _ _ (by omega) (by rw[← g5];exact g6),← g5,ae,g2,hwl,da]
 ·obtain⟨g1,g2,g3,g5,g6⟩:=h;rw[if_neg (by omega),g1,if_neg (fun e=>by omega)];simp only[show ¬ (18:Nat)=16 by decide,if_false,if_true];rw[g2] at hll hv hwl;rw[if_neg (by omega),hv,tM _ _ (by omega) (by rw[← g5];exact g6),← g5,ae,g2,hwl,da]
theorem Hc {t u:List Nat} {W:List (List Nat)} (pf:PF W) {all:List Nat} {i j f p:Nat} {x:Nat × Nat × Nat} (h:StepRn all i x j) (hw:∃ w,W[x.1]? =some w∧w≠[]) (hp:p≤t.length) (ht:t.drop p=u) (hu:∃ q,q≠[]∧u++q=dw W x):
  dv t W all.length (f+1) (all.take i) p= .inl 2:=by
 obtain⟨w,hw1,hw2⟩:=hw;obtain⟨q,hq,hu⟩:=hu;obtain⟨hl1,hl2⟩:=h.lt;unfold dw at hu;rw[getD_some hw1] at hu;rw[dv,if_pos (by rw[oe (by omega)];omega),ht]
 rcases eP ⟨q,hu⟩ with ⟨q',hq',hu'⟩ | ⟨v,rfl,hv⟩
 ·rw[n9 pf hw1 u [] q' (by rw[bH];exact hu') hq']
 ·rw[kA pf hw1 hw2];simp only;rw[List.append_assoc] at hu;have hu:=eh hu;have l1:p+w.length≤t.length:=by have:=cg ht (.inr hp);rw[ae] at this;omega
  have e1:=cC ht;have hll:=cg e1 (.inr l1);have hq2:q.length≠0:=fun h0=>hq (bG h0)
  have hul:=congrArg List.length hu;rw[ae,show(aE x.2.1 x.2.2).reverse.length=x.2.2 by simp] at hul;obtain⟨h0,h | h | h | h⟩:=h
  ·omega
  ·obtain⟨g1,g2,g3,g4,g5,g6⟩:=h;rw[if_neg (by omega),g1,if_neg (fun e=>by have:=congrArg List.length e.2;rw[oe (by omega),bI] at this;omega)];simp only[if_true];rw[if_pos (by omega)]
  ·obtain⟨g1,g2,g3,g5,g6⟩:=h;rw[if_neg (by omega),g1,if_neg (fun e=>by omega)];simp only[show ¬ (17:Nat)=18 by decide,show ¬ (17:Nat)=16 by decide,if_false];rw[if_pos (by omega)]
  ·obtain⟨g1,g2,g3,g5,g6⟩:=h;rw[if_neg (by omega),g1,if_neg (fun e=>by omega)];simp only[show ¬ (18:Nat)=16 by decide,if_false,if_true];rw[if_pos (by omega)]
theorem yT {t r:List Nat} {W:List (List Nat)} (pf:PF W) {all:List Nat}:∀ (R:List (Nat × Nat × Nat)) (i p f:Nat),RunsTo all i R all.length→i≤all.length→(∀ x∈R,∃ w,W[x.1]? =some w∧w≠[])→p≤t.length→t.drop p=R.flatMap (dw W)++r→R.length<f→
  dv t W all.length f (all.take i) p= .inr (p+(R.flatMap (dw W)).length,all):=by
 intro R
 induction R with
 | nil=>
  intro i p f h _ _ hp ht hf;obtain⟨f,rfl⟩:∃ g,f=g+1:=⟨f-1,by simp at hf;omega⟩;cases h;rw[dv,cS,if_neg (by omega),if_neg (by omega)];rfl
 | cons x R ih=>
  rintro i p f ⟨m,h1,h2⟩ hi hw hp ht hf;obtain⟨f,rfl⟩:∃ g,f=g+1:=⟨f-1,by simp at hf;omega⟩;rw[fR,List.append_assoc] at ht;rw[yS pf h1 (hw x (by simp)) hp ht];have l1:p+(dw W x).length≤t.length:=by have:=cg ht (.inr hp);rw[ae] at this;omega
  rw[ih m _ f h2 h1.lt.2 (fun y hy=>hw y (by simp [hy])) l1 (cC ht) (by simp at hf;omega),fR,ae,da]
theorem Hd {t:List Nat} {W:List (List Nat)} (pf:PF W) {all:List Nat}:∀ (R:List (Nat × Nat × Nat)) (i p f:Nat) (u:List Nat),RunsTo all i R all.length→(∀ x∈R,∃ w,W[x.1]? =some w∧w≠[])→p≤t.length→t.drop p=u→(∃ q,q≠[]∧u++q=R.flatMap (dw W))→R.length<f→
  dv t W all.length f (all.take i) p= .inl 2:=by
 intro R
 induction R with
 | nil=>
  rintro i p f u h _ hp ht ⟨q,hq,hu⟩ hf;exact absurd (uE.1 hu).2 hq
 | cons x R ih=>
  rintro i p f u ⟨m,h1,h2⟩ hw hp ht ⟨q,hq,hu⟩ hf;obtain⟨f,rfl⟩:∃ g,f=g+1:=⟨f-1,by simp at hf;omega⟩;rw[fR] at hu
  rcases eP ⟨q,hu⟩ with ⟨q',hq',hu'⟩ | ⟨v,rfl,hv⟩
  ·exact Hc pf h1 (hw x (by simp)) hp ht ⟨q',hq',hu'⟩
  ·rw[yS pf h1 (hw x (by simp)) hp ht];have l1:p+(dw W x).length≤t.length:=by have:=cg ht (.inr hp);rw[ae] at this;omega
   rw[List.append_assoc] at hu;exact ih m _ f v h2 (fun y hy=>hw y (by simp [hy])) l1 (cC ht) ⟨q,hq,eh hu⟩ (by simp at hf;omega)
def eu (me:List Nat) (l:List Nat):List Nat:=l.flatMap fun i=>(aE (me.getD i 0) 3).reverse
theorem qu (me:List Nat) (l:List Nat):(eu me l).length=3*l.length:=by
 induction l with
 | nil=>rfl
 | cons i l ih=>
  rw[eu,fR,ae,show(List.flatMap (fun i=>(aE (me.getD i 0) 3).reverse) l).length=3*l.length from ih,aO];simp;omega
theorem yU {t r me:List Nat} (h8:∀ i,me.getD i 0<8):∀ (l:List Nat) (p:Nat) (lens:List Nat),p≤t.length→t.drop p=eu me l++r→
  fW t l p lens= .inr (p+3*l.length,l.foldl (fun a i=>a.set i (me.getD i 0)) lens):=by
 intro l
 induction l with
 | nil=>intro p lens hp ht;rfl
 | cons i l ih=>
  intro p lens hp ht;have ht':t.drop p=(aE (me.getD i 0) 3).reverse++(eu me l++r):=by rw[ht,eu,fR,List.append_assoc];rfl
  have hl:=cg ht' (.inr hp);rw[ae,show(aE (me.getD i 0) 3).reverse.length=3 by simp] at hl;have h2:=cC ht';rw[show(aE (me.getD i 0) 3).reverse.length=3 by simp] at h2;rw[fW,if_neg (by omega),fZ ht' (h8 i),ih (p+3) _ (by omega) h2,mP,aO]
  congr 2;omega
theorem He {t me:List Nat} (h8:∀ i,me.getD i 0<8):∀ (l:List Nat) (p:Nat) (lens u:List Nat),p≤t.length→t.drop p=u→(∃ q,q≠[]∧u++q=eu me l)→
  fW t l p lens= .inl 2:=by
 intro l
 induction l with
 | nil=>rintro p lens u hp ht ⟨q,hq,hu⟩;exact absurd (uE.1 hu).2 hq
 | cons i l ih=>
  rintro p lens u hp ht ⟨q,hq,hu⟩;have hl:=cg ht (.inr hp);rw[eu,fR] at hu;rw[fW]
  rcases eP ⟨q,hu⟩ with ⟨q',hq',hu'⟩ | ⟨v,rfl,hv⟩
  ·have hl2:=congrArg List.length hu';rw[ae,show(aE (me.getD i 0) 3).reverse.length=3 by simp] at hl2;have hq2:q'.length≠0:=fun h0=>hq' (bG h0)
   rw[if_pos (by omega)]
  ·rw[ae,show(aE (me.getD i 0) 3).reverse.length=3 by simp] at hl;have h2:=cC ht;rw[show(aE (me.getD i 0) 3).reverse.length=3 by simp] at h2;rw[if_neg (by omega)];rw[List.append_assoc] at hu;exact ih (p+3) _ v (by omega) h2 ⟨q,hq,eh hu⟩
theorem yV (me:List Nat):∀ (l lens:List Nat) (j:Nat),(l.foldl (fun a i=>a.set i (me.getD i 0)) lens).length=lens.length∧(j<lens.length→(l.foldl (fun a i=>a.set i (me.getD i 0)) lens).getD j 0=if j∈l then me.getD j 0 else lens.getD j 0):=by
 intro l
 induction l with
 | nil=>intro lens j;exact⟨rfl,fun _=>by simp⟩
 | cons i l ih=>
  intro lens j;obtain⟨h1,h2⟩:=ih (lens.set i (me.getD i 0)) j;rw[mP];refine⟨by rw[h1,eg],fun hj=> ?_⟩;rw[h2 (by rw[eg];exact hj)]
  by_cases hjl:j∈l
  ·rw[if_pos hjl,if_pos (by simp [hjl])]
  ·rw[if_neg hjl]
   by_cases hij:j=i
   ·subst hij;rw[if_pos (by simp),List.getD_eq_getElem?_getD,lS,if_pos rfl,if_pos hj];rfl
   ·rw[if_neg (by simp [hij,hjl]),List.getD_eq_getElem?_getD,lS,if_neg (fun e=>hij e.symm),← List.getD_eq_getElem?_getD]
theorem yW {me:List Nat} (h:me.length=19):bo.foldl (fun a i=>a.set i (me.getD i 0)) (List.replicate 19 0)=me:=by
 obtain⟨h1,_⟩:=yV me bo (List.replicate 19 0) 0;rw[df] at h1;refine lP (by rw[h1,h]) fun j hj1 hj2=> ?_
 have hj:j<19:=by omega
 obtain⟨_,h2⟩:=yV me bo (List.replicate 19 0) j;have h2:=h2 (by rw[df];exact hj);have hmem:j∈bo:=by
  have:∀ j,j<19→j∈bo:=by decide
  exact this j hj
 rw[if_pos hmem,List.getD_eq_getElem?_getD,List.getD_eq_getElem?_getD,au hj1,au hj2] at h2;exact h2
structure OwnOk (la lb:List Nat):Prop where
 l1:la.length=286
 l2:lb.length=30
 a30:∀ n∈la,n≤15
 b30:∀ n∈lb,n≤15
 fa:fullC la=true
 oa:OkC la
 ob:OkC lb
 fb:fullC lb=true∨(usedL lb≤1∧longL lb≤1)
 eob:0<la.getD 256 0
structure MetaOk (me:List Nat) (R:List (Nat × Nat × Nat)):Prop where
 len:me.length=19
 le:∀ n∈me,n≤7
 full:fullC me=true
 ok:OkC me
 used:∀ r∈R,0<me.getD r.1 0
def mE (la lb me:List Nat) (R:List (Nat × Nat × Nat)) (l:List TokD):List Nat:=
 (aE 29 5).reverse++((aE 29 5).reverse++((aE 15 4).reverse++(eu me bo++(R.flatMap (dw (aF me))++bZ (aF la) (aF lb) l))))
theorem Hf (W:List (List Nat)) (hW:∀ w∈W,Bit w) (R:List (Nat × Nat × Nat)):Bit (R.flatMap (dw W)):=by
 intro b hb;obtain⟨r,hr,hb⟩:=jH.1 hb
 rcases cD.1 hb with h | h
 ·rw[List.getD_eq_getElem?_getD] at h;cases hg:W[r.1]? with
  | none=>rw[hg] at h;simp at h
  | some w=>rw[hg] at h;exact hW w (aI hg) b h
 ·exact(dp _ _).reverse b h
theorem qv {W:List (List Nat)} (hW:∀ w∈W,Bit w) (i:Nat):Bit (W.getD i []):=by
 intro b hb;rw[List.getD_eq_getElem?_getD] at hb;cases hg:W[i]? with
 | none=>rw[hg] at hb;simp at hb
 | some w=>rw[hg] at hb;exact hW w (aI hg) b hb
theorem Hg {A B:List (List Nat)} (hA:∀ w∈A,Bit w) (hB:∀ w∈B,Bit w) (l:List TokD):Bit (bZ A B l):=by
 have hm:∀ far n,Bit (jE far n):=fun far n=>(dp _ _).reverse
 unfold bZ;refine Bit.append ?_ (qv hA _);intro b hb;obtain⟨k,hk,hb⟩:=jH.1 hb;unfold cM at hb
 split at hb
 ·exact qv hA _ b hb
 ·exact((qv hA _).append ((hm _ _).append ((qv hB _).append (hm _ _)))) b hb
theorem Hh (me l:List Nat):Bit (eu me l):=by
 intro b hb;obtain⟨r,hr,hb⟩:=jH.1 hb;exact(dp _ _).reverse b hb
theorem Hi {la lb:List Nat} (h:OwnOk la lb):GoodU (aF la) (aF lb):=
 ⟨lj h.oa fun n hn=>by have:=h.a30 n hn;omega,lj h.ob fun n hn=>by have:=h.b30 n hn;omega,lA (by rw[h.l1];omega) h.eob⟩
theorem own_blk {b:List UInt8} {i j p:Nat} {last:Bool} {l:List TokD} {la lb me:List Nat} {R:List (Nat × Nat × Nat)} (h:TellsTo b i l j) (hi:i≤b.length) (ok:OwnOk la lb) (mo:MetaOk me R) (hR:RunsTo (la++lb) 0 R (la++lb).length)
  (hus:∀ k∈l,dU (aF la) (aF lb) k):BlkS b p i j last (headL last 2++mE la lb me R l):=by
 obtain⟨g1,g2,_⟩:=h.le hi;have G:=Hi ok;have hlen:=yQ G l i j h hus;have hall:(la++lb).length=316:=by rw[ae,ok.l1,ok.l2]
 have hRl:=(hR.le (Nat.zero_le _)).2.2;rw[hall] at hRl;have hm8:∀ i,me.getD i 0<8:=fun i=>by
  rw[List.getD_eq_getElem?_getD];cases hg:me[i]? with
  | none=>simp
  | some n=>have:=mo.le n (aI hg);simp;omega
 have pfm:PF (aF me):=lj mo.ok fun n hn=>by have:=mo.le n hn;omega
 have hRw:∀ x∈R,∃ w,(aF me)[x.1]? =some w∧w≠[]:=fun x hx=>by
  have h0:=mo.used x hx;refine lA ?_ h0
  rcases bV x.1 me.length with h | h
  ·exact h
  ·rw[List.getD_eq_getElem?_getD,bh h] at h0;simp at h0
 have w5:∀ v,(aE v 5).reverse.length=5:=fun v=>by simp
 have w4:∀ v,(aE v 4).reverse.length=4:=fun v=>by simp
 have hml:(eu me bo).length=57:=by rw[qu];rfl
 have hord:bo.take 19=bo:=rfl;have hwm:dd me 0= .inr (aF me):=tL mo.ok (fun n hn=>by have:=mo.le n hn;omega) mo.full 0;have hwa:dd la 0= .inr (aF la):=tL ok.oa (fun n hn=>by have:=ok.a30 n hn;omega) ok.fa 0;have hwb:dd lb 1= .inr (aF lb):=by
  rcases ok.fb with hf | ⟨h1,h2⟩
  ·exact tL ok.ob (fun n hn=>by have:=ok.b30 n hn;omega) hf 1
  ·exact G9 ok.ob (fun n hn=>by have:=ok.b30 n hn;omega) h1 h2
 have he256:¬ (la++lb).getD 256 0=0:=by
  have:=ok.eob;rw[List.getD_eq_getElem?_getD,bK (by rw[ok.l1];omega),← List.getD_eq_getElem?_getD];omega
 have tk:(la++lb).take 286=la:=by rw[← ok.l1];exact lH
 have dk:(la++lb).drop 286=lb:=by rw[← ok.l1];exact lO
 have hb:Bit (mE la lb me R l):=(dp _ _).reverse.append ((dp _ _).reverse.append ((dp _ _).reverse.append ((Hh _ _).append ((Hf _ (ju _) _).append (Hg (ju _) (ju _) l)))));refine tI (by omega) hb g1 g2 (fun t r most hp ht hm=> ?_) (fun t u most hp ht hu hm=> ?_)
 ·unfold mE at ht ⊢;rw[List.append_assoc] at ht;have l0:=cg ht (.inr hp);rw[ae,w5,ae,ae,w5,ae,w4] at l0;have v1:vl t (p+3) 5=29:=fZ ht (by decide);have h1:=cC ht;rw[w5,List.append_assoc] at h1;have v2:vl t (p+3+5) 5=29:=fZ h1 (by decide);have h2:=cC h1;rw[w5,List.append_assoc] at h2;have v3:vl t (p+3+10) 4=15:=fZ h2 (by decide);have h3:=cC h2;rw[w4,List.append_assoc] at h3;have l3:=cg h3 (.inr (by omega));rw[ae,hml] at l3;have h4:=cC h3;rw[hml,List.append_assoc] at h4;have l4:=cg h4 (.inr (by omega));rw[ae,ae] at l4;have h5:=cC h4;rw[fX,if_neg (by omega),if_neg (by omega),if_pos rfl,ie,if_neg (by omega)];simp only[v1,v2,v3];rw[if_neg (by omega),hord,yU hm8 bo (p+3+14) _ (by omega) h3,yW mo.len];simp only;rw[hwm];simp only;have hL:=yT (t:=t) (r:=bZ (aF la) (aF lb) l++r) pfm R 0 (p+3+10+4+57) 317 hR (by omega) hRw (by omega) h4 (by omega);rw[hall,AM] at hL;rw[show p+3+14+3*bo.length=p+3+10+4+57 by have:bo.length=19:=rfl;omega,show(29+257)+(29+1)=316 by rfl,hL];simp only;rw[if_neg he256,show 29+257=286 by rfl,tk,dk,hU,hwa];simp only;rw[hwb];simp only;rw[yO G l _ _ i j h hus hi (by omega) h5 (by omega) hm]
  by_cases hm2:most<j
  ·rw[if_pos hm2,if_pos hm2]
  ·rw[if_neg hm2,if_neg hm2];simp only[ae,w5,w4,hml]
   congr 2
   omega
 ·obtain⟨q,hq,hu⟩:=hu;unfold mE at hu;have hq2:q.length≠0:=fun h0=>hq (bG h0)
  have htl:=cg ht (.inr hp);rw[fX,if_neg (by omega),if_neg (by omega),if_pos rfl,ie]
  by_cases hs:t.length<p+3+14
  ·rw[if_pos hs]
  ·rw[if_neg hs];have hge:14≤u.length:=by omega
   obtain⟨v,rfl⟩:∃ v,u=(aE 29 5).reverse++((aE 29 5).reverse++((aE 15 4).reverse++v)):=by
    rcases eP ⟨q,hu⟩ with ⟨q1,_,e1⟩ | ⟨v1,rfl,e1⟩
    ·have:=congrArg List.length e1;rw[ae,w5] at this;omega
    ·rw[List.append_assoc] at hu;have hu:=eh hu;rw[ae,w5] at hge
     rcases eP ⟨q,hu⟩ with ⟨q2,_,e2⟩ | ⟨v2,rfl,e2⟩
     ·have:=congrArg List.length e2;rw[ae,w5] at this;omega
     ·rw[List.append_assoc] at hu;have hu:=eh hu;rw[ae,w5] at hge
      rcases eP ⟨q,hu⟩ with ⟨q3,hq3,e3⟩ | ⟨v3,rfl,e3⟩
      ·have hz3:q3.length≠0:=fun h0=>hq3 (bG h0)
       have:=congrArg List.length e3;rw[ae,w4] at this;omega
      ·exact⟨v3,rfl⟩
   have hu3:v++q=eu me bo++(R.flatMap (dw (aF me))++bZ (aF la) (aF lb) l):=by
    rw[List.append_assoc] at hu;have hu:=eh hu;rw[List.append_assoc] at hu;have hu:=eh hu;rw[List.append_assoc] at hu;exact eh hu
   have v1:vl t (p+3) 5=29:=fZ ht (by decide);have h1:=cC ht;rw[w5] at h1;have v2:vl t (p+3+5) 5=29:=fZ h1 (by decide);have h2:=cC h1;rw[w5] at h2;have v3:vl t (p+3+10) 4=15:=fZ h2 (by decide);have h3:=cC h2;rw[w4] at h3;simp only[v1,v2,v3];rw[if_neg (by omega),hord]
   rcases eP ⟨q,hu3⟩ with ⟨q4,hq4,e4⟩ | ⟨v4,rfl,e4⟩
   ·rw[He hm8 bo (p+3+14) _ v (by omega) h3 ⟨q4,hq4,e4⟩]
   ·rw[yU hm8 bo (p+3+14) _ (by omega) h3,yW mo.len];simp only;rw[hwm];simp only;rw[List.append_assoc] at hu3;have hu4:=eh hu3;have l3:=cg h3 (.inr (by omega));rw[ae,hml] at l3;have h4:=cC h3;rw[hml] at h4;have l4:=cg h4 (.inr (by omega));rw[show p+3+14+3*bo.length=p+3+10+4+57 by have:bo.length=19:=rfl;omega,show(29+257)+(29+1)=316 by rfl]
    rcases eP ⟨q,hu4⟩ with ⟨q5,hq5,e5⟩ | ⟨v5,rfl,e5⟩
    ·have hL:=Hd (t:=t) pfm R 0 (p+3+10+4+57) 317 v4 hR hRw (by omega) h4 ⟨q5,hq5,e5⟩ (by omega);rw[hall,AM] at hL;rw[hL]
    ·have hL:=yT (t:=t) (r:=v5) pfm R 0 (p+3+10+4+57) 317 hR (by omega) hRw (by omega) h4 (by omega);rw[hall,AM] at hL;rw[hL];simp only;rw[if_neg he256,show 29+257=286 by rfl,tk,dk,hU,hwa];simp only;rw[hwb];simp only;have h5:=cC h4;rw[ae] at l4;have l5:=cg h5 (.inr (by omega));rw[List.append_assoc] at hu4;exact yP G l _ _ i j v5 h hus hi hm (by omega) h5 ⟨q,hq,eh hu4⟩ (by omega)
def f7 (k:TokD):Prop:=k.len=0∨(3≤k.len∧k.len≤258∧1≤k.dist∧k.dist≤32768)
theorem tN {b:List UInt8}:∀ {l:List TokD} {i j:Nat},TellsTo b i l j→∀ k∈l,f7 k:=by
 intro l
 induction l with
 | nil=>intro i j _ k hk;cases hk
 | cons x l ih=>
  rintro i j ⟨m,h1,h2⟩ k hk
  rcases List.mem_cons.1 hk with rfl | hk
  ·rcases h1.ok with h | ⟨a,b,c,d,e⟩
   ·exact .inl h
   ·exact .inr ⟨a,b,c,e⟩
  ·exact ih h2 k hk
def eb (k:TokD):Nat:=if k.len=0 then k.lit.toNat else 257+aY false k.len.toNat
def eQ (l:List Nat) (p:Nat):List Nat:=l.set p (l.getD p 0+1)
def jd (a:List Nat) (k:TokD):List Nat:=if k.len=0 then a else eQ a (aY true k.dist.toNat)
def lB:List Nat:=(List.replicate 286 0).set 256 1
def og:List Nat:=List.replicate 30 0
def fj (T:List TokD):List Nat:=T.foldl (fun a k=>eQ a (eb k)) lB
def eR (T:List TokD):List Nat:=T.foldl jd og
def fk (T:List TokD):List Nat:=if T.length=0 then(fj T).set 0 1 else fj T
theorem yX (l:List Nat) (p:Nat):(eQ l p).length=l.length:=by simp [eQ]
theorem Hj (l:List Nat) (k:TokD):(jd l k).length=l.length:=by unfold jd;split <;> simp [eQ]
theorem tO (l:List Nat) (p i:Nat) (h:p<l.length):(eQ l p).getD i 0=l.getD i 0+if i=p then 1 else 0:=by
 unfold eQ;rw[List.getD_eq_getElem?_getD,lS]
 by_cases e:p=i
 ·subst e;rw[if_pos rfl,if_pos h,if_pos rfl];rfl
 ·rw[if_neg e,if_neg (fun h=>e h.symm),← List.getD_eq_getElem?_getD];rfl
theorem yY (T:List TokD) (k:TokD):fj (T++[k])=eQ (fj T) (eb k):=by simp [fj,mS]
theorem yZ (T:List TokD) (k:TokD):eR (T++[k])=jd (eR T) k:=by simp [eR,mS]
theorem om:∀ T,(fj T).length=286:=by
 have key:∀ (T:List TokD) (a:List Nat),(T.foldl (fun a k=>eQ a (eb k)) a).length=a.length:=by
  intro T
  induction T with
  | nil=>intro a;rfl
  | cons k T ih=>intro a;rw[mP,ih,yX]
 intro T;rw[fj,key,lB,eg,df]
theorem oq:∀ T,(eR T).length=30:=by
 have key:∀ (T:List TokD) (a:List Nat),(T.foldl jd a).length=a.length:=by
  intro T
  induction T with
  | nil=>intro a;rfl
  | cons k T ih=>intro a;rw[mP,ih,Hj]
 intro T;rw[eR,key];simp [og]
theorem tP {k:TokD} (h:f7 k):eb k<286∧eb k≠256:=by
 unfold eb
 split
 ·have:k.lit.toNat<256:=bR _;omega
 ·obtain⟨h1,h2,_⟩:=h.resolve_left (by assumption);have:=(ky (n:=k.len.toNat) (by omega) (by omega)).1;omega
theorem y5 {k:TokD} (h:f7 k) (h0:k.len≠0):aY true k.dist.toNat<30:=by
 obtain⟨h1,h2,h3,h4⟩:=h.resolve_left h0;have:=(lz (n:=k.dist.toNat) (by omega) (by omega)).1;omega
theorem Hk (i:Nat):lB.getD i 0=if i=256 then 1 else 0:=by
 unfold lB;rw[List.getD_eq_getElem?_getD,lS]
 by_cases e:i=256
 ·subst e;rw[if_pos rfl,if_pos (by rw[df];omega),if_pos rfl];exact jg
 ·rw[if_neg (fun h=>e h.symm),if_neg e,dx]
  split <;> rfl
theorem Hm (i:Nat):og.getD i 0=0:=by
 unfold og;rw[List.getD_eq_getElem?_getD,dx]
 split <;> rfl
theorem tQ {α:Type} {P:List α→Prop} (h0:P []) (h1:∀ l a,P l→P (l++[a])):∀ l,P l:=by
 have key:∀ l:List α,P l.reverse:=by
  intro l
  induction l with
  | nil=>exact h0
  | cons a l ih=>rw[oD];exact h1 _ _ ih
 intro l;have:=key l.reverse;rwa [ut] at this
theorem qw:∀ (T:List TokD),(∀ k∈T,f7 k)→∀ i,(fj T).getD i 0=(if i=256 then 1 else 0)+(T.filter fun k=>decide (eb k=i)).length:=by
 refine tQ ?_ fun T k ih=> ?_
 ·intro _ i;show lB.getD i 0=_;rw[Hk];rfl
 ·intro hok i;have hk:=(tP (hok k (by simp))).1;rw[yY,tO _ _ _ (by rw[om];exact hk),ih (fun x hx=>hok x (by simp [hx])),jk,ae,da]
  congr 2
  by_cases e:eb k=i
  ·rw[if_pos e.symm,cU,if_pos (by simpa using e)];rfl
  ·rw[if_neg (fun h=>e h.symm),cU,if_neg (by simpa using e)];rfl
theorem y6:∀ (T:List TokD),(∀ k∈T,f7 k)→∀ i,(eR T).getD i 0=(T.filter fun k=>decide (k.len≠0∧aY true k.dist.toNat=i)).length:=by
 refine tQ ?_ fun T k ih=> ?_
 ·intro _ i;show og.getD i 0=_;rw[Hm];rfl
 ·intro hok i;rw[yZ,jk,ae,← ih (fun x hx=>hok x (by simp [hx]))];unfold jd
  by_cases h0:k.len=0
  ·rw[if_pos h0,cU,if_neg (by simp [h0])];rfl
  ·rw[if_neg h0,tO _ _ _ (by rw[oq];exact y5 (hok k (by simp)) h0)]
   congr 1
   by_cases e:aY true k.dist.toNat=i
   ·rw[if_pos e.symm,cU,if_pos (by simp [h0,e])];rfl
   ·rw[if_neg (fun h=>e h.symm),cU,if_neg (by simp [e])];rfl
theorem tR {l:List Nat} {m:Nat} (h:∀ i,l.getD i 0≤m):∀ n∈l,n≤m:=by
 intro n hn;obtain⟨i,hi,rfl⟩:=kM.1 hn;have:=h i;rw[List.getD_eq_getElem?_getD,au hi] at this;exact this
theorem qx {T:List TokD} (hok:∀ k∈T,f7 k):∀ n∈fj T,n≤T.length+1:=tR fun i=>by
 rw[qw T hok];have:=lR (fun k=>decide (eb k=i)) T
 split <;> omega
theorem y7 {T:List TokD} (hok:∀ k∈T,f7 k):∀ n∈eR T,n≤T.length:=tR fun i=>by
 rw[y6 T hok];exact lR _ T
theorem qy (T:List TokD):(fk T).length=286:=by unfold fk;split <;> simp [om]
theorem Ho {T:List TokD} (hok:∀ k∈T,f7 k):∀ n∈fk T,n≤T.length+1:=by
 unfold fk
 split
 ·intro n hn
  rcases mX hn with h | rfl
  ·exact qx hok n h
  ·omega
 ·exact qx hok
theorem tS (o:List Nat):comes o≤o.length:=by
 rw[comes,dT,bS];have:=lR (fun i=>decide (0<o.getD i 0)) (List.range o.length);rwa [kK] at this
theorem tT {o:List Nat} {i j:Nat} (hi:0<o.getD i 0) (hj:0<o.getD j 0) (h:i≠j):2≤comes o:=by
 have lt:∀ i,0<o.getD i 0→i<o.length:=fun i hi=>by
  rcases bV i o.length with h | h
  ·exact h
  ·rw[List.getD_eq_getElem?_getD,bh h] at hi;cases hi
 rw[comes,dT,bS];have h1:i∈(List.range o.length).filter fun i=>decide (0<o.getD i 0):=jL.2 ⟨iP.2 (lt _ hi),by simpa using hi⟩
 have h2:j∈(List.range o.length).filter fun i=>decide (0<o.getD i 0):=jL.2 ⟨iP.2 (lt _ hj),by simpa using hj⟩
 generalize (List.range o.length).filter (fun i=>decide (0<o.getD i 0))=L at*
 match L,h1,h2 with
 | [x],h1,h2=>exact absurd ((List.mem_singleton.1 h1).trans (List.mem_singleton.1 h2).symm) h
 | x::y::L,_,_=>simp
theorem Hp {o l:List Nat} {most:Nat} (h:LimOk o most l):usedL l=comes o:=by
 rw[usedL,comes,dT,bS];have e:∀ m,m≤l.length→((l.take m).filter fun n=>decide (0<n)).length=((List.range m).filter fun i=>decide (0<o.getD i 0)).length:=by
  intro m
  induction m with
  | zero=>intro _;rfl
  | succ m ih=>
   intro hm;rw[List.take_succ_eq_append_getElem (by omega),jk,gT,jk,ae,ae,ih (by omega)]
   congr 1
   have h1:=h.pos m (by rw[← h.len];omega);rw[List.getD_eq_getElem?_getD,au (by omega:m<l.length)] at h1
   by_cases hp:0<o.getD m 0
   ·rw[cU,if_pos (by simpa using h1.2 hp),cU,if_pos (by simpa using hp)];rfl
   ·rw[cU,if_neg (fun hq=>hp (h1.1 (by simpa using hq))),cU,if_neg (by simpa using hp)];rfl
 have:=e l.length (Nat.le_refl _);rwa [cS,h.len] at this
theorem Hq {l:List Nat} (h1:∀ n∈l,n≤1) (hu:usedL l≤1):OkC l∧longL l≤1:=by
 refine⟨?_,?_⟩
 ·have hs:∀ n,krS n l≤2^(n-1)*usedL l:=by
   intro n;clear hu
   induction l with
   | nil=>simp [krS]
   | cons x l ih=>
    have:=ih fun n hn=>h1 n (by simp [hn])
    have hx:=h1 x (by simp);rw[qf,usedL,cU]
    by_cases h0:0<x
    ·rw[if_pos (by simpa using h0),aO,Nat.mul_succ,lJ];refine Nat.add_le_add this ?_;obtain rfl:x=1:=by omega
     unfold iD
     split
     ·exact Nat.le_refl _
     ·exact Nat.zero_le _
    ·rw[if_neg (by simpa using h0)];have e:iD n x=0:=by unfold iD;rw[if_neg (by omega)]
     rw[e,bA];exact this
  intro n hn;have e:(bC l n+dj l n)*2=krS (n+1) l:=by rw[tn,qg]
  have:=hs (n+1);have h2:2^n*usedL l≤2^n*1:=jm _ hu;rw[rf] at this;omega
 ·have key:∀ (l:List Nat) (a:Nat),a≤1→(∀ n∈l,n≤1)→l.foldl max a≤1:=by
   intro l
   induction l with
   | nil=>intro a ha _;exact ha
   | cons x l ih=>intro a ha h;exact ih _ (by have:=h x (by simp);omega) fun n hn=>h n (by simp [hn])
  exact key l 0 (by omega) h1
theorem qz {T:List TokD} (hok:∀ k∈T,f7 k) {la lb:List Nat} (ha:LimOk (fk T) 15 la) (hb:LimOk (eR T) 15 lb):OwnOk la lb∧∀ k∈T,dU (aF la) (aF lb) k:=by
 have h256:0<(fj T).getD 256 0:=by rw[qw T hok,if_pos rfl];omega
 have h256c:0<(fk T).getD 256 0:=by
  unfold fk
  split
  ·rw[List.getD_eq_getElem?_getD,jj (by omega),← List.getD_eq_getElem?_getD];exact h256
  ·exact h256
 have two:2≤comes (fk T):=by
  rcases gm T.length with h | h
  ·refine tT (i:=0) (j:=256) ?_ h256c (by omega);unfold fk;rw[if_pos h,List.getD_eq_getElem?_getD,ji (by rw[om];omega)];exact Nat.one_pos
  ·obtain⟨k,R,rfl⟩:∃ k R,T=k::R:=by
    cases T with
    | nil=>simp at h
    | cons k R=>exact⟨k,R,rfl⟩
   obtain⟨p1,p2⟩:=tP (hok k (by simp));refine tT (i:=eb k) (j:=256) ?_ h256c p2;unfold fk;rw[if_neg (by simp),qw _ hok,if_neg p2,cU,if_pos (by simp)];simp
 obtain⟨fa,oa⟩:=tp (ha.full two);have hla:la.length=286:=by rw[ha.len,qy]
 have hlb:lb.length=30:=by rw[hb.len,oq]
 have hB:OkC lb∧(fullC lb=true∨(usedL lb≤1∧longL lb≤1)):=by
  by_cases h2:2≤comes (eR T)
  ·obtain⟨f,o⟩:=tp (hb.full h2);exact⟨o,.inl f⟩
  ·have hu:usedL lb≤1:=by rw[Hp hb];omega
   obtain⟨o,l1⟩:=Hq (hb.one (by omega)) hu;exact⟨o,.inr ⟨hu,l1⟩⟩
 refine⟨⟨hla,hlb,ha.le,hb.le,fa,oa,hB.1,hB.2,?_⟩,fun k hk=> ?_⟩
 ·exact(ha.pos 256 (by rw[qy];omega)).2 h256c
 ·obtain⟨p1,p2⟩:=tP (hok k hk);have hT0:T.length≠0:=fun h=>by rw[bG h] at hk;cases hk
  have hpos:0<la.getD (eb k) 0:=by
   refine(ha.pos _ (by rw[qy];exact p1)).2 ?_;unfold fk;rw[if_neg hT0,qw T hok];have:0<(T.filter fun x=>decide (eb x=eb k)).length:=AN (jL.2 ⟨hk,by simp⟩);omega
  have hw:=lA (by rw[hla];exact p1) hpos;unfold dU
  by_cases h0:k.len=0
  ·rw[if_pos h0];unfold eb at hw;rw[if_pos h0] at hw;exact hw
  ·rw[if_neg h0];unfold eb at hw;rw[if_neg h0] at hw;refine⟨hw,?_⟩;have q:=y5 (hok k hk) h0;refine lA (by rw[hlb];exact q) ((hb.pos _ (by rw[oq];exact q)).2 ?_);rw[y6 T hok];exact AN (jL.2 ⟨hk,by simp [h0]⟩)
def j4 (k:TokD):List Value:=[.int .u8 (k.lit.toNat:Int),.int .i64 k.len,.int .i64 k.dist]
def bQ (l:List TokD):List Value:=l.flatMap j4
theorem Hr (l:List TokD) (k:Nat) (o:TokD) (h:l[k]? =some o) (j:Nat) (hj:j<3):(bQ l)[k*3+j]? =(j4 o)[j]? :=
 kj j4 3 (fun _=>rfl) l k o h j hj
theorem y9 {w:World} {a:Option Addr} {cap n:Nat} {l:List TokD} (h:Reads w 3 (.slice a n cap) n (bQ l)) {k:Nat} {o:TokD} (hk:l[k]? =some o):
  ∃ b off,a=some ⟨b,off,none⟩∧w.cell? ⟨b,off+k*3,none⟩=some (.int .u8 (o.lit.toNat:Int))∧w.cell? ⟨b,off+k*3+1,none⟩=some (.int .i64 o.len)∧w.cell? ⟨b,off+k*3+2,none⟩=some (.int .i64 o.dist):=by
 obtain⟨hl,⟨e,rfl⟩ | ⟨⟨b,off,spot⟩,c,e,h1,h2,h3⟩⟩:=h
 ·have:l=[]:=by
   cases l with
   | nil=>rfl
   | cons p l=>simp [bQ,j4] at hl
  simp [this] at hk
 ·cases e;have g:=fun j hj=>Hr l k o hk j hj
  have h00:∃ u,(bQ l)[0]? =some u:=by
   have:k<l.length:=(cG.1 hk).1;cases l with
   | nil=>simp at this
   | cons p l=>exact⟨_,rfl⟩
  obtain⟨u0,hu0⟩:=h00;have hspot:spot=none:=by simpa [Addr.add] using World.cell?_spot (h3 0 u0 hu0)
  subst hspot;refine⟨b,off,rfl,?_,?_,?_⟩
  ·have:=h3 _ _ ((g 0 (by decide)).trans rfl);rw[Addr.add_lit] at this;exact this
  ·have:=h3 _ _ ((g 1 (by decide)).trans rfl);rw[Addr.add_lit] at this;exact this
  ·have:=h3 _ _ ((g 2 (by decide)).trans rfl);rw[Addr.add_lit] at this;exact this
theorem j5 {P:Program} {fn:Func} {R:Ending→World→Prop} {x u:Nat} {ty e:TypeId} {cs:Array Value} {fr:Nat × Nat} {b:Nat} {a:Act} {w:World} {d:TypeDesc} (h:fn.results=#[.cell x ty,.tmp u])
  (hx:a.tmps.getD x undef= .pointer (some ⟨b,0,none⟩)) (hg:w.heap[b]? =some (.cells cs e fr)) (hu:P.underlying ty=some d) (hd:(match d with | .struct _ | .array _ _=>true | _=>false)=true) (hi:(P.info? ty).map (·.size)=some cs.size)
  (hf:a.defers=[]) (hR:R (.returned (.tuple #[.agg cs,a.tmps.getD u undef])) w):bodyPost P fn R .ret a w:=by
 refine⟨hf,_,?_,hR⟩;have hx':a.tmps[x]?.getD undef= .pointer (some ⟨b,0,none⟩):=by simpa using hx
 simp [results,h,hx',asAddr,run_loadVar_row w b e ty cs fr d hg hu hd hi]
end Go.Proofs.YtboflbdniogcdaaGreatDoor
