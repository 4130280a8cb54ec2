/-
  Parts of a proof.
-/
import Derived.Lib.Strings
import Derived.Test.YtboflbdniogcdaaGreatDoorK04
set_option linter.unusedVariables false
set_option linter.unusedSimpArgs false
set_option maxRecDepth 100000
set_option maxHeartbeats 100000000
namespace Go.Mz
open Go.RowKit
theorem ov (l m:List Nat):aX (l++m)=aX l*2^m.length+aX m:=by
 rw[aX,lU,tu];rfl
theorem uO (k:Nat):aX (List.replicate k 1)+1=2^k:=by
 induction k with
 | zero=>rfl
 | succ k ih=>rw[jr,i9,dK,Nat.one_mul,ec,ih,df];omega
theorem ox (k:Nat):aX (List.replicate k 0)=0:=by
 induction k with
 | zero=>rfl
 | succ k ih=>rw[jr,i9,ih];simp
theorem Cx (p:List Nat) (k:Nat):aX (p++1::List.replicate k 0)=aX (p++0::List.replicate k 1)+1:=by
 rw[ov,ov,i9,i9,ox];have:=uO k;simp only[aK,dK];omega
def ck (l:List Nat) (n:Nat):Nat:=if n=0 then 0 else l.count n
def aU (l:List Nat):Nat→Nat
 | 0=>0
 | n+1=>(aU l n+ck l n)*2
def OkC (l:List Nat):Prop:=∀ n,n≤30→aU l n+ck l n≤2^n
instance (l:List Nat):Decidable (OkC l):=inferInstanceAs (Decidable (∀ n,n≤30→_))
def eM (l:List Nat) (i:Nat):List Nat:=ap (aU l (l.getD i 0)+(l.take i).count (l.getD i 0)) (l.getD i 0)
def aB (l:List Nat):List (List Nat):=(List.range l.length).map (eM l)
def fullC (l:List Nat):Bool:=aU l 31==2^31
theorem jd (l:List Nat) (i:Nat):(eM l i).length=l.getD i 0:=by rw[eM,dw]
def StandC (l:List Nat) (n r:Nat) (was:List Nat) (first:Bool):Prop:=
 (first=true∧was=[]∧aU l n+r=0)∨(first=false∧Bit was∧was.length≤n∧(aX was+1)*2^(n-was.length)=aU l n+r)
theorem StandC.le {l:List Nat} {n r:Nat} {was:List Nat} {first:Bool} (h:StandC l n r was first):aU l n+r≤2^n:=by
 rcases h with ⟨_,_,h⟩ | ⟨_,hb,hl,h⟩
 ·rw[h];exact Nat.zero_le _
 ·rw[← h];have:=lm hb
  calc (aX was+1)*2^(n-was.length)≤2^was.length*2^(n-was.length):=dW _ this
   _=2^n:=by rw[← lZ];congr 1;omega
theorem StandC.up {l:List Nat} {n:Nat} {was:List Nat} {first:Bool} (h:StandC l n (ck l n) was first):StandC l (n+1) 0 was first:=by
 rcases h with ⟨h1,h2,h⟩ | ⟨h1,hb,hl,h⟩
 ·exact .inl ⟨h1,h2,by rw[aU];omega⟩
 ·refine .inr ⟨h1,hb,by omega,?_⟩;rw[aU,← h,fL,iz,← df]
  congr 2;omega
theorem StandC.one {l:List Nat} {n r:Nat} {was:List Nat} (h:StandC l n r was true):List.replicate n 0=ap (aU l n+r) n∧StandC l n (r+1) (List.replicate n 0) false:=by
 rcases h with ⟨_,_,h⟩ | ⟨h1,_⟩
 ·have e:=mq (List.replicate n 0) (iZ n);rw[ox,dK] at e;refine⟨by rw[h,e],.inr ⟨rfl,iZ n,by simp,?_⟩⟩;rw[ox,dK,du];omega
 ·cases h1
theorem StandC.more {l:List Nat} {n r k:Nat} {p:List Nat} (h:StandC l n r (p++0::List.replicate k 1) false):
  (p++1::List.replicate k 0)++List.replicate (n-(p.length+k+1)) 0=ap (aU l n+r) n∧StandC l n (r+1) ((p++1::List.replicate k 0)++List.replicate (n-(p.length+k+1)) 0) false:=by
 rcases h with ⟨h1,_⟩ | ⟨_,hb,hl,h⟩
 ·cases h1
 ·have hlen:(p++0::List.replicate k 1).length=p.length+k+1:=by simp;omega
  rw[hlen] at hl h;have hbp:Bit p:=fun b hx=>hb b (s7 _ hx)
  have hb2:Bit ((p++1::List.replicate k 0)++List.replicate (n-(p.length+k+1)) 0):=by
   refine(hbp.append fun b hx=> ?_).append (iZ _)
   rcases List.mem_cons.1 hx with rfl | hx
   ·omega
   ·exact iZ k b hx
  have hn:aX ((p++1::List.replicate k 0)++List.replicate (n-(p.length+k+1)) 0)=aU l n+r:=by
   rw[ov,ox,Cx,dK];omega
  have hl2:((p++1::List.replicate k 0)++List.replicate (n-(p.length+k+1)) 0).length=n:=by simp;omega
  have e:=mq _ hb2;rw[hn,hl2] at e;refine⟨e.symm,.inr ⟨rfl,hb2,by omega,?_⟩⟩;rw[hl2,hn,du];omega
theorem StandC.none {l:List Nat} {n r k:Nat} (h:StandC l n r (List.replicate k 1) false):aU l n+r=2^n:=by
 rcases h with ⟨h1,_⟩ | ⟨_,hb,hl,h⟩
 ·cases h1
 ·rw[dK] at hl h;rw[← h,uO,← lZ]
  congr 1;omega
theorem StandC.not_full {l:List Nat} {n r k:Nat} {p:List Nat} (h:StandC l n r (p++0::List.replicate k 1) false):aU l n+r<2^n:=by
 have:=(h.more.2).le;omega
def jZ (l:List Nat) (i:Nat):Nat:=aU l (l.getD i 0)+(l.take i).count (l.getD i 0)
theorem rh {l:List Nat} {i k n:Nat} (hi:i<l.length) (hn:l.getD i 0=n) (hk:i<k):(l.take i).count n<(l.take k).count n:=by
 have h1:l.take (i+1)=l.take i++[n]:=by
  rw[fY,ai hi,← hn,List.getD_eq_getElem?_getD,ai hi];rfl
 have h2:(l.take (i+1)).count n≤(l.take k).count n:=List.Sublist.count_le _ (List.take_sublist_take_left (by omega));rw[h1,jT] at h2;simp at h2;omega
theorem uP {l:List Nat} {i:Nat} (hi:i<l.length) (hn:0<l.getD i 0):jZ l i+1≤aU l (l.getD i 0)+ck l (l.getD i 0):=by
 have:=rh hi rfl hi;rw[cI] at this;rw[jZ,ck,if_neg (by omega)];omega
theorem Cy (l:List Nat) (n d:Nat):(aU l n+ck l n)*2^(d+1)≤aU l (n+d+1):=by
 induction d with
 | zero=>rw[aU];exact Nat.le_refl _
 | succ d ih=>
  rw[df,← iz,show n+(d+1)+1=(n+d+1)+1 from rfl,aU];exact dW _ (by omega)
theorem uQ {l:List Nat} (ok:OkC l) {i:Nat} (hi:i<l.length) (hn:0<l.getD i 0) (h30:l.getD i 0≤30):aX (eM l i)=jZ l i:=by
 rw[eM,mj];exact pZ (by have:=uP hi hn;have:=ok _ h30;rw[jZ] at *;omega)
theorem uR (l:List Nat) (i:Nat):Bit (eM l i):=da _ _
theorem Cz {l:List Nat} (ok:OkC l) (h30:∀ n∈l,n≤30) {i k:Nat} (hi:i<l.length) (hk:k<l.length) (hik:i≠k) (hn:0<l.getD i 0):¬ eM l i <+:eM l k:=by
 rintro⟨r,hr⟩;have g:∀ j,l.getD j 0≤30:=fun j=>by
  rw[List.getD_eq_getElem?_getD];cases e:l[j]? with
  | none=>simp
  | some b=>exact h30 b (aG e)
 have hl:=congrArg List.length hr;rw[ae,jd,jd] at hl;have hb:Bit r:=fun b hx=>uR l k b (by rw[← hr];exact JE _ hx)
 have hnum:=congrArg aX hr;rw[ov,uQ ok hi hn (g i),uQ ok hk (by omega) (g k)] at hnum;have hlt:=lm hb
 rcases e:r.length with _ | d
 ·rw[e] at hl hnum hlt;have hE:l.getD k 0=l.getD i 0:=by omega
  rw[jZ,jZ,hE] at hnum
  rcases cf i k with h | h
  ·have:=rh hi rfl h;rw[Nat.pow_zero] at hnum hlt;omega
  ·have:=rh hk hE (show k<i by omega);rw[Nat.pow_zero] at hnum hlt;omega
 ·rw[e] at hl hnum hlt;have h1:=uP hi hn;have h2:=Cy l (l.getD i 0) d;have h3:aU l (l.getD i 0+d+1)≤jZ l k:=by rw[jZ,← hl,show l.getD i 0+(d+1)=l.getD i 0+d+1 from rfl];omega
  have h4:=dW (2^(d+1)) h1;rw[kh] at h4;omega
theorem oy {a b:Nat} (ha:a≤1) (hb:b≤1) (h:dg a=dg b):a=b:=by
 have:=congrArg UInt8.toNat h;rw[jy ha,jy hb] at this;omega
theorem oz {l m:List Nat} (hl:Bit l) (hm:Bit m) (h:tx l=tx m):l=m:=by
 induction l generalizing m with
 | nil=>cases m with
  | nil=>rfl
  | cons b m=>simp at h
 | cons a l ih=>cases m with
  | nil=>simp at h
  | cons b m=>
   rw[ku,ku,qc] at h;rw[oy (hl a (by simp)) (hm b (by simp)) h.1,ih (fun c hc=>hl c (by simp [hc])) (fun c hc=>hm c (by simp [hc])) h.2]
theorem CA {l m:List Nat} (hl:Bit l) (hm:Bit m) (h:tx l <+:tx m):l <+:m:=by
 have:=List.prefix_iff_eq_take.1 h;rw[iY,mh] at this;rw[oz hl (hm.take _) this];exact List.take_prefix _ _
end Go.Mz
