/-
  Parts of a proof.
-/
import Derived.Test.YtboflbdniogcdaaGreatDoorK00
import Derived.Lib.Strings
import Derived.Test.YtboflbdniogcdaaGreatDoorK05
set_option linter.unusedVariables false
set_option linter.unusedSimpArgs false
set_option maxRecDepth 100000
set_option maxHeartbeats 100000000
namespace Go.Mz
open Go.RowKit
theorem pI (l m:List Nat):bB (l++m)=bB l*2^m.length+bB m:=by
 rw[bB,mS,uN];rfl
theorem wI (k:Nat):bB (List.replicate k 1)+1=2^k:=by
 induction k with
 | zero=>rfl
 | succ k ih=>rw[gU,iQ,df,Nat.one_mul,da,ih,dM];omega
theorem pJ (k:Nat):bB (List.replicate k 0)=0:=by
 induction k with
 | zero=>rfl
 | succ k ih=>rw[gU,iQ,ih];simp
theorem Dw (p:List Nat) (k:Nat):bB (p++1::List.replicate k 0)=bB (p++0::List.replicate k 1)+1:=by
 rw[pI,pI,iQ,iQ,pJ];have:=wI k;simp only[aO,df];omega
def dj (l:List Nat) (n:Nat):Nat:=if n=0 then 0 else l.count n
def bC (l:List Nat):Nat→Nat
 | 0=>0
 | n+1=>(bC l n+dj l n)*2
def OkC (l:List Nat):Prop:=∀ n,n≤30→bC l n+dj l n≤2^n
instance (l:List Nat):Decidable (OkC l):=inferInstanceAs (Decidable (∀ n,n≤30→_))
def gW (l:List Nat) (i:Nat):List Nat:=aE (bC l (l.getD i 0)+(l.take i).count (l.getD i 0)) (l.getD i 0)
def aF (l:List Nat):List (List Nat):=(List.range l.length).map (gW l)
def fullC (l:List Nat):Bool:=bC l 31==2^31
theorem iU (l:List Nat) (i:Nat):(gW l i).length=l.getD i 0:=by rw[gW,dh]
def StandC (l:List Nat) (n r:Nat) (was:List Nat) (first:Bool):Prop:=
 (first=true∧was=[]∧bC l n+r=0)∨(first=false∧Bit was∧was.length≤n∧(bB was+1)*2^(n-was.length)=bC l n+r)
theorem StandC.le {l:List Nat} {n r:Nat} {was:List Nat} {first:Bool} (h:StandC l n r was first):bC l n+r≤2^n:=by
 rcases h with ⟨_,_,h⟩ | ⟨_,hb,hl,h⟩
 ·rw[h];exact Nat.zero_le _
 ·rw[← h];have:=kS hb
  calc (bB was+1)*2^(n-was.length)≤2^was.length*2^(n-was.length):=ef _ this
   _=2^n:=by rw[← mT];congr 1;omega
theorem StandC.up {l:List Nat} {n:Nat} {was:List Nat} {first:Bool} (h:StandC l n (dj l n) was first):StandC l (n+1) 0 was first:=by
 rcases h with ⟨h1,h2,h⟩ | ⟨h1,hb,hl,h⟩
 ·exact .inl ⟨h1,h2,by rw[bC];omega⟩
 ·refine .inr ⟨h1,hb,by omega,?_⟩;rw[bC,← h,fQ,iL,← dM]
  congr 2;omega
theorem StandC.one {l:List Nat} {n r:Nat} {was:List Nat} (h:StandC l n r was true):List.replicate n 0=aE (bC l n+r) n∧StandC l n (r+1) (List.replicate n 0) false:=by
 rcases h with ⟨_,_,h⟩ | ⟨h1,_⟩
 ·have e:=pq (List.replicate n 0) (lT n);rw[pJ,df] at e;refine⟨by rw[h,e],.inr ⟨rfl,lT n,by simp,?_⟩⟩;rw[pJ,df,b8];omega
 ·cases h1
theorem StandC.more {l:List Nat} {n r k:Nat} {p:List Nat} (h:StandC l n r (p++0::List.replicate k 1) false):
  (p++1::List.replicate k 0)++List.replicate (n-(p.length+k+1)) 0=aE (bC l n+r) n∧StandC l n (r+1) ((p++1::List.replicate k 0)++List.replicate (n-(p.length+k+1)) 0) false:=by
 rcases h with ⟨h1,_⟩ | ⟨_,hb,hl,h⟩
 ·cases h1
 ·have hlen:(p++0::List.replicate k 1).length=p.length+k+1:=by simp;omega
  rw[hlen] at hl h;have hbp:Bit p:=fun b hx=>hb b (uz _ hx)
  have hb2:Bit ((p++1::List.replicate k 0)++List.replicate (n-(p.length+k+1)) 0):=by
   refine(hbp.append fun b hx=> ?_).append (lT _)
   rcases List.mem_cons.1 hx with rfl | hx
   ·omega
   ·exact lT k b hx
  have hn:bB ((p++1::List.replicate k 0)++List.replicate (n-(p.length+k+1)) 0)=bC l n+r:=by
   rw[pI,pJ,Dw,df];omega
  have hl2:((p++1::List.replicate k 0)++List.replicate (n-(p.length+k+1)) 0).length=n:=by simp;omega
  have e:=pq _ hb2;rw[hn,hl2] at e;refine⟨e.symm,.inr ⟨rfl,hb2,by omega,?_⟩⟩;rw[hl2,hn,b8];omega
theorem StandC.none {l:List Nat} {n r k:Nat} (h:StandC l n r (List.replicate k 1) false):bC l n+r=2^n:=by
 rcases h with ⟨h1,_⟩ | ⟨_,hb,hl,h⟩
 ·cases h1
 ·rw[df] at hl h;rw[← h,wI,← mT]
  congr 1;omega
def kn (l:List Nat) (i:Nat):Nat:=bC l (l.getD i 0)+(l.take i).count (l.getD i 0)
theorem sk {l:List Nat} {i k n:Nat} (hi:i<l.length) (hn:l.getD i 0=n) (hk:i<k):(l.take i).count n<(l.take k).count n:=by
 have h1:l.take (i+1)=l.take i++[n]:=by
  rw[jJ,au hi,← hn,List.getD_eq_getElem?_getD,au hi];rfl
 have h2:(l.take (i+1)).count n≤(l.take k).count n:=List.Sublist.count_le _ (List.take_sublist_take_left (by omega));rw[h1,kN] at h2;simp at h2;omega
theorem wJ {l:List Nat} {i:Nat} (hi:i<l.length) (hn:0<l.getD i 0):kn l i+1≤bC l (l.getD i 0)+dj l (l.getD i 0):=by
 have:=sk hi rfl hi;rw[cS] at this;rw[kn,dj,if_neg (by omega)];omega
theorem Dx (l:List Nat) (n d:Nat):(bC l n+dj l n)*2^(d+1)≤bC l (n+d+1):=by
 induction d with
 | zero=>rw[bC];exact Nat.le_refl _
 | succ d ih=>
  rw[dM,← iL,show n+(d+1)+1=(n+d+1)+1 from rfl,bC];exact ef _ (by omega)
theorem wK {l:List Nat} (ok:OkC l) {i:Nat} (hi:i<l.length) (hn:0<l.getD i 0) (h30:l.getD i 0≤30):bB (gW l i)=kn l i:=by
 rw[gW,uP];exact qZ (by have:=wJ hi hn;have:=ok _ h30;rw[kn] at *;omega)
theorem wL (l:List Nat) (i:Nat):Bit (gW l i):=dp _ _
theorem Dy {l:List Nat} (ok:OkC l) (h30:∀ n∈l,n≤30) {i k:Nat} (hi:i<l.length) (hk:k<l.length) (hik:i≠k) (hn:0<l.getD i 0):¬ gW l i <+:gW l k:=by
 rintro⟨r,hr⟩;have g:∀ j,l.getD j 0≤30:=fun j=>by
  rw[List.getD_eq_getElem?_getD];cases e:l[j]? with
  | none=>simp
  | some b=>exact h30 b (aI e)
 have hl:=congrArg List.length hr;rw[ae,iU,iU] at hl;have hb:Bit r:=fun b hx=>wL l k b (by rw[← hr];exact K1 _ hx)
 have hnum:=congrArg bB hr;rw[pI,wK ok hi hn (g i),wK ok hk (by omega) (g k)] at hnum;have hlt:=kS hb
 rcases e:r.length with _ | d
 ·rw[e] at hl hnum hlt;have hE:l.getD k 0=l.getD i 0:=by omega
  rw[kn,kn,hE] at hnum
  rcases bV i k with h | h
  ·have:=sk hi rfl h;rw[Nat.pow_zero] at hnum hlt;omega
  ·have:=sk hk hE (show k<i by omega);rw[Nat.pow_zero] at hnum hlt;omega
 ·rw[e] at hl hnum hlt;have h1:=wJ hi hn;have h2:=Dx l (l.getD i 0) d;have h3:bC l (l.getD i 0+d+1)≤kn l k:=by rw[kn,← hl,show l.getD i 0+(d+1)=l.getD i 0+d+1 from rfl];omega
  have h4:=ef (2^(d+1)) h1;rw[kF] at h4;omega
end Go.Mz
