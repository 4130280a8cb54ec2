/-
  Parts of a proof.
-/
import Derived.Test.YtboflbdniogcdaaGreatDoorK00
import Derived.Test.YtboflbdniogcdaaGreatDoorK21
import Derived.Test.YtboflbdniogcdaaGreatDoorK22
import Derived.Deep.LoopGhost
import Derived.Test.YtboflbdniogcdaaGreatDoorK15
import Derived.Test.YtboflbdniogcdaaGreatDoorK16
import Derived.Deep.QuietTactic
import Derived.BigQuiet
import Derived.Test.YtboflbdniogcdaaGreatDoorK06
set_option linter.unusedVariables false
set_option linter.unusedSimpArgs false
set_option maxRecDepth 100000
set_option maxHeartbeats 100000000
namespace Go.Proofs.YtboflbdniogcdaaGreatDoor
open Go.RowKit Go.Mz
def dt (n:Nat):List Nat:=List.replicate (n/2560) 103++((if 64≤n%2560 then [63+n%2560/64] else [])++[n%2560%64])
def cK (black:Bool) (n:Nat):List Nat:=fF (aM black) (dt n)
theorem xg {n:Nat} (h:2560≤n):dt n=103::dt (n-2560):=by
 have e1:n/2560=(n-2560)/2560+1:=by omega
 have e2:n%2560=(n-2560)%2560:=by omega
 rw[dt,dt,e1,e2,gU];rfl
theorem xh {n:Nat} (h:n<2560) (h2:64≤n):dt n=(63+n/64)::dt (n%64):=by
 have e1:n/2560=0:=by omega
 have e2:n%2560=n:=by omega
 have e3:n%64/2560=0:=by omega
 have e4:n%64%2560=n%64:=by omega
 have e5:n%64%64=n%64:=by omega
 rw[dt,dt,e1,e2,e3,e4,e5,if_pos h2,if_neg (by omega)];rfl
theorem xi {n:Nat} (h:n<64):dt n=[n]:=by
 have e1:n/2560=0:=by omega
 have e2:n%2560=n:=by omega
 have e5:n%64=n:=by omega
 rw[dt,e1,e2,e5,if_neg (by omega)];rfl
theorem sD {n:Nat}:∀ i∈dt n,i<104:=by
 intro i hi;rw[dt] at hi
 rcases cD.1 hi with hi | hi
 ·rw[mY] at hi;omega
 ·rcases cD.1 hi with hi | hi
  ·split at hi
   ·rw[List.mem_singleton] at hi;omega
   ·cases hi
  ·rw[List.mem_singleton] at hi;omega
theorem mi (W:List (List Nat)) (i:Nat) (K:List Nat):fF W (i::K)=W.getD i []++fF W K:=by simp [fF]
def gJ (W:List (List Nat)) (t:List Nat) (most:Int):Nat→Nat→Nat→Nat × (Nat ⊕ Nat)
 | 0,p,_=>(p,.inr 99)
 | f+1,p,n=>
  match aX W [] (t.drop p) with
  | (k,.inr e)=>(p+k,.inr e)
  | (k,.inl i)=>if most<((n+dm i:Nat):Int) then(p+k,.inr 5) else if i<64 then(p+k,.inl (n+dm i)) else gJ W t most f (p+k) (n+dm i)
def fG (black:Bool) (t:List Nat) (most:Int) (p:Nat):Nat × (Nat ⊕ Nat):=gJ (aM black) t most (t.length+1-p) p 0
def iW (t:List Nat) (p:Nat):Nat × (Int ⊕ Nat):=
 match aX aP [] (t.drop p) with
 | (k,.inr e)=>(p+k,.inr e)
 | (k,.inl i)=>if i=9 then(p+k,.inr 9) else(p+k,.inl ((i:Int)-3))
def DZ (r:Nat × (Nat ⊕ Nat)) (z:Int) (x p':Nat):Prop:=
 p'=r.1∧match r.2 with
 | .inl n=>z=n∧x=0
 | .inr e=>z=0∧x=e
def D0 (r:Nat × (Int ⊕ Nat)) (z:Int) (x p':Nat):Prop:=
 p'=r.1∧match r.2 with
 | .inl n=>z=n∧x=0
 | .inr e=>z=0∧x=e
theorem D1 {i:Nat} (h:i<104):be.getD i 0=(dm i:Nat):=by
 rw[List.getD_eq_getElem?_getD,be,aC,dW h];rfl
theorem D3 {i:Nat} (h:i<10):eL.getD i 0=(i:Int)-3:=by
 rw[List.getD_eq_getElem?_getD,eL,aC,dW h];rfl
theorem D4 {i:Nat} (h:i<104):dm i≤2560:=by
 rw[dm];split <;> omega
theorem D6 {i:Nat}:dm i<64↔i<64:=by
 rw[dm];split <;> omega
theorem xj {w0 w:World} {C:Nat} {F:SProp} (h:St w0 w (aA C*F)) (black:Bool):∃ (B:Nat) (R:SProp),
  St w0 w (bD B (aM black) be*(R*F))∧(∀ w' G,St w0 w' (bD B (aM black) be*(R*G))→St w0 w' (aA C*G))∧
  (∀ w' G,St w0 w' (bD B (aM black) be*(R*G))→Calls Tryz.prog 180 #[.pointer (some ⟨C,0,none⟩),.bool black] w' fun e w''=>e= .returned (.pointer (some ⟨B,0,none⟩))∧w'=w''):=by
 obtain⟨B0,B1,Bm,h1⟩:=sB h;cases black
 ·refine⟨B0,blk C (.cells #[.pointer (some ⟨B0,0,none⟩),.pointer (some ⟨B1,0,none⟩),.pointer (some ⟨Bm,0,none⟩)] 186)*(bD B1 (aM true) be*en Bm aP eL),h1.perm (by ac_rfl),fun w' G h'=>nF (h'.perm (by ac_rfl)),fun w' G h'=> ?_⟩;have h2:=h'.perm (show _=blk C (.cells #[.pointer (some ⟨B0,0,none⟩),.pointer (some ⟨B1,0,none⟩),.pointer (some ⟨Bm,0,none⟩)] 186)*(bD B0 (aM false) be*(bD B1 (aM true) be*(en Bm aP eL*G))) by ac_rfl);have c0:=h2.cell 0 rfl;clear h h1 h' h2;go_enter Tryz.func180,Tryz.ntmps180;go_wp2_with fail;go_ret;exact⟨rfl,rfl⟩
 ·refine⟨B1,blk C (.cells #[.pointer (some ⟨B0,0,none⟩),.pointer (some ⟨B1,0,none⟩),.pointer (some ⟨Bm,0,none⟩)] 186)*(bD B0 (aM false) be*en Bm aP eL),h1.perm (by ac_rfl),fun w' G h'=>nF (h'.perm (by ac_rfl)),fun w' G h'=> ?_⟩;have h2:=h'.perm (show _=blk C (.cells #[.pointer (some ⟨B0,0,none⟩),.pointer (some ⟨B1,0,none⟩),.pointer (some ⟨Bm,0,none⟩)] 186)*(bD B0 (aM false) be*(bD B1 (aM true) be*(en Bm aP eL*G))) by ac_rfl);have c1:=h2.cell 1 rfl;clear h h1 h' h2;go_enter Tryz.func180,Tryz.ntmps180;go_wp2_with fail;go_ret;exact⟨rfl,rfl⟩
theorem xk {w0 w:World} {C Rb:Nat} {F:SProp} {bs:List UInt8} {p:Nat} {low:Bool} (h:St w0 w (aA C*(aq Rb bs p low*F))) (most:Int) (black:Bool) (hl:bs.length≤100000000) (hp:p≤8*bs.length):
  Calls Tryz.prog 161 #[.pointer (some ⟨C,0,none⟩),.pointer (some ⟨Rb,0,none⟩),.int .i64 most,.bool black] w fun e w'=>∃ (z:Int) (x p':Nat),
   e= .returned (.tuple #[.int .i64 z,.int .i64 (x:Nat)])∧DZ (fG black (ag low bs) most p) z x p'∧p'≤8*bs.length∧St w0 w' (aA C*(aq Rb bs p' low*F)):=by
 obtain⟨B,R,h1,HS,HBK⟩:=xj h black;have HSH:=ac HS;have HBO:=ac HBK;clear HS HBK h;generalize hRES:fG black (ag low bs) most p=RES at*
 have HRES:=ac hRES;clear hRES;rw[fG,bM] at HRES;have H1:=ac h1;clear h1;go_enter Tryz.func161,Tryz.ntmps161;go_wp2_with fail
 go_loopg [10] (8*bs.length+1-p) (fun g vn wr=>∃ (q n:Nat),vn= .int .i64 n∧8*bs.length+1≤g+q∧q≤8*bs.length∧n≤2560*q∧gJ (aM black) (ag low bs) most g q n=RES∧St w0 wr (bD B (aM black) be*(R*(aq Rb bs q low*F))))
 case atStart=>exact⟨p,0,rfl,by omega,hp,by omega,HRES.out,H1.out⟩
 case round=>
  clear H1 HRES;obtain⟨q,n,rfl,hg,hq,hn,hres,hst⟩:=hrel;obtain⟨g,rfl⟩:∃ g,gk=g+1:=⟨gk-1,by omega⟩;rw[gJ] at hres;have C1:=HBO.out _ _ hst;have C2:=DQ (hst.perm (show _=bD B (aM black) be*(aq Rb bs q low*(R*F)) by ac_rfl)) (by rw[pN,ko]) hq;have hlen:=iT (aM black) ((ag low bs).drop q) [];have hdl:((ag low bs).drop q).length=8*bs.length-q:=by rw[a8,bM]
  generalize aX (aM black) [] ((ag low bs).drop q)=r at*
  obtain⟨k,r⟩:=r;have hk1:q+k≤8*bs.length:=by have:=hlen.2.1;simp only[bI,hdl] at this;omega
  have HC1:=ac C1;have HC2:=ac C2;have HRS:=ac hres;have HG:=ac hg;clear C1 C2 hst hdl hres hg;go_wp2_with fail;refine HC1.out.mono ?_;rintro e w1 ⟨rfl,rfl⟩;go_wp2_with fail;refine HC2.out.mono ?_;rintro e w2 ⟨z,x,p1,rfl,hrd,h3⟩;have h3:=h3.perm (show _=bD B (aM black) be*(R*(aq Rb bs p1 low*F)) by ac_rfl);have H3:=ac h3;clear h3 HC1 HC2;cases r with
  | inr er=>
   have her:=hlen.2.2.2.2 er rfl;obtain⟨hp1,hx,hz⟩:=hrd;subst hx hz;simp only at HRS hp1;have hx2:¬ (x:Int)=0:=by omega
   have HP:=ac hp1;have HK:=ac hk1;clear hlen hp1 hk1;go_wp2_with fail;go_ret2;exact⟨0,x,p1,rfl,by rw[← HRS.out];exact⟨HP.out,rfl,rfl⟩,by rw[HP.out];exact HK.out,HSH.out _ _ H3.out⟩
  | inl i=>
   obtain⟨hi0,hi⟩:=hlen.2.2.2.1 i rfl;rw[ko] at hi;obtain⟨hp1,hx,hz⟩:=hrd;rw[D1 hi] at hz;subst hx hz;simp only[bI] at HRS hp1 hi0;rw[← hp1] at HRS;have hp1l:p1≤8*bs.length:=by rw[hp1];exact hk1
   have hfl:=D4 hi;have h64:= @D6 i;obtain⟨n1,hn1⟩:∃ n1,n1=n+dm i:=⟨_,rfl⟩;rw[← hn1] at HRS;have hn1i:(n:Int)+(dm i:Nat)=(n1:Int):=by omega
   have hn1q:n1≤2560*p1:=by omega
   have hq1:q+1≤p1:=by omega
   generalize dm i=fl at*
   clear hlen hp1 hk1 hi0 hn1
   by_cases hm:most<(n1:Int)
   ·have hres:=HRS.out;rw[if_pos hm] at hres;have HRX:=ac hres;clear hres HRS h64;have HPL:=ac hp1l;clear hp1l hn1q hq1;go_wp2_with fail;go_ret2;exact⟨0,5,p1,rfl,by rw[← HRX.out];exact⟨rfl,rfl,rfl⟩,HPL.out,HSH.out _ _ H3.out⟩
   ·have hres:=HRS.out;rw[if_neg hm] at hres;clear HRS
    by_cases hlt:i<64
    ·rw[if_pos hlt] at hres;have hfl2:(fl:Int)<64:=by have:=h64.2 hlt;omega
     have HRX:=ac hres;clear hres h64;have HPL:=ac hp1l;clear hp1l hn1q hq1;go_wp2_with fail;go_ret2;exact⟨n1,0,p1,rfl,by rw[← HRX.out];exact⟨rfl,rfl,rfl⟩,HPL.out,HSH.out _ _ H3.out⟩
    ·rw[if_neg hlt] at hres;have hfl2:¬ (fl:Int)<64:=by intro hc;exact hlt (h64.1 (by omega))
     have HRX:=ac hres;clear hres h64;have HPL:=ac hp1l;have HNQ:=ac hn1q;have HQ1:=ac hq1;clear hp1l hn1q hq1;go_wp2_with fail
     go_roundg g
     case measure=>omega
     case rel=>exact⟨p1,n1,rfl,by have:=HG.out;have:=HQ1.out;omega,HPL.out,HNQ.out,HRX.out,H3.out⟩
theorem D7 {w0 w:World} {C Rb:Nat} {F:SProp} {bs:List UInt8} {p:Nat} {low:Bool} (h:St w0 w (aA C*(aq Rb bs p low*F))) (hl:bs.length≤100000000) (hp:p≤8*bs.length):
  Calls Tryz.prog 163 #[.pointer (some ⟨C,0,none⟩),.pointer (some ⟨Rb,0,none⟩)] w fun e w'=>∃ (z:Int) (x p':Nat),
   e= .returned (.tuple #[.int .i64 z,.int .i64 (x:Nat)])∧D0 (iW (ag low bs) p) z x p'∧p'≤8*bs.length∧St w0 w' (aA C*(aq Rb bs p' low*F)):=by
 obtain⟨B0,B1,Bm,h1⟩:=sB h;have c2:=h1.cell 2 rfl;have C2:=DS (h1.perm (show _=en Bm aP eL*(aq Rb bs p low*(blk C (.cells #[.pointer (some ⟨B0,0,none⟩),.pointer (some ⟨B1,0,none⟩),.pointer (some ⟨Bm,0,none⟩)] 186)*(bD B0 (aM false) be*(bD B1 (aM true) be*F)))) by ac_rfl)) (by rw[wP,lg]) hp;have HBACK:=ac (fun w' p' (h':St w0 w' (en Bm aP eL*(aq Rb bs p' low*(blk C (.cells #[.pointer (some ⟨B0,0,none⟩),.pointer (some ⟨B1,0,none⟩),.pointer (some ⟨Bm,0,none⟩)] 186)*(bD B0 (aM false) be*(bD B1 (aM true) be*F))))))=>
  (nF (h'.perm (by ac_rfl)):St w0 w' (aA C*(aq Rb bs p' low*F))))
 have HR:=ac (show iW (ag low bs) p=match aX aP [] ((ag low bs).drop p) with
  | (k,.inr e)=>(p+k,.inr e)
  | (k,.inl i)=>if i=9 then(p+k,.inr 9) else(p+k,.inl ((i:Int)-3)) from rfl)
 have hlen:=iT aP ((ag low bs).drop p) [];have hdl:((ag low bs).drop p).length=8*bs.length-p:=by rw[a8,bM]
 generalize aX aP [] ((ag low bs).drop p)=r at*
 obtain⟨k,r⟩:=r;have hk1:p+k≤8*bs.length:=by have:=hlen.2.1;simp only[bI,hdl] at this;omega
 have HC2:=ac C2;clear C2 hdl h h1;go_enter Tryz.func163,Tryz.ntmps163;go_wp2_with fail;refine HC2.out.mono ?_;rintro e w2 ⟨z,x,p1,rfl,hrd,h3⟩;have H3:=ac (HBACK.out _ _ h3);clear h3 HC2 HBACK c2;cases r with
 | inr er=>
  have her:=hlen.2.2.2.2 er rfl;obtain⟨hp1,hx,hz⟩:=hrd;subst hx hz;simp only at HR hp1;have hx2:¬ (x:Int)=0:=by omega
  have hx3:((x:Int)==0)=false:=by rw[beq_eq_false_iff_ne];exact hx2
  have HP:=ac hp1;have HK:=ac hk1;clear hlen hp1 hk1;go_wp2_with fail;go_ret2;exact⟨0,x,p1,rfl,by rw[HR.out];exact⟨HP.out,rfl,rfl⟩,by rw[HP.out];exact HK.out,H3.out⟩
 | inl i=>
  obtain⟨hi0,hi⟩:=hlen.2.2.2.1 i rfl;rw[lg] at hi;obtain⟨hp1,hx,hz⟩:=hrd;rw[D3 hi] at hz;subst hx hz;simp only[bI] at HR hp1;have HP:=ac hp1;have HK:=ac hk1;clear hlen hp1 hk1 hi0
  by_cases h9:i=9
  ·subst h9;rw[if_pos rfl] at HR;go_wp2_with fail;go_ret2;exact⟨0,9,p1,rfl,by rw[HR.out];exact⟨HP.out,rfl,rfl⟩,by rw[HP.out];exact HK.out,H3.out⟩
  ·rw[if_neg h9] at HR;have hn9:¬ (i:Int)-3=6:=by omega
   have hb9:((i:Int)-3==6)=false:=by rw[beq_eq_false_iff_ne];exact hn9
   obtain⟨y,hy⟩:∃ y:Int,y=(i:Int)-3:=⟨_,rfl⟩;rw[← hy] at HR hn9 hb9 ⊢;have HY:=ac hy;clear hy;go_wp2_with fail;go_ret2;exact⟨y,0,p1,rfl,by rw[HR.out];exact⟨HP.out,rfl,rfl⟩,by rw[HP.out];exact HK.out,H3.out⟩
theorem pP {w0 w:World} {C Wb:Nat} {F:SProp} {l:List Nat} {low:Bool} (h:St w0 w (aA C*(aB Wb l low*F))) (n:Nat) (hn:n≤32768) (black:Bool) (hm:l.length≤1000000000) {j:Int} (hj:j=n):
  Calls Tryz.prog 142 #[.pointer (some ⟨C,0,none⟩),.pointer (some ⟨Wb,0,none⟩),.int .i64 j,.bool black] w fun e w'=>e= .returned (.int .i64 0)∧St w0 w' (aA C*(aB Wb (l++cK black n) low*F)):=by
 subst hj;obtain⟨B,R,h1,HS,HBK⟩:=xj h black;have HSH:=ac HS;have HC1:=ac (HBK _ _ h1);clear HS HBK h;have H1:=ac h1;clear h1;have HTL:=ac (show l++cK black n=l++fF (aM black) (dt n) from rfl);generalize l++cK black n=RES at*
 go_enter Tryz.func142,Tryz.ntmps142;go_wp2_with fail;refine HC1.out.mono ?_;rintro e w1 ⟨rfl,rfl⟩;clear HC1;go_wp2_with fail
 go_loopw [2] (fun vn wr=>∃ (m:Nat) (l':List Nat),vn= .int .i64 m∧m≤32768∧l'.length+13*m≤1000500000∧l'++fF (aM black) (dt m)=RES∧St w0 wr (bD B (aM black) be*(R*(aB Wb l' low*F)))) (fun vn _=>(intOf vn).toNat)
 case atStart=>exact⟨n,l,rfl,hn,by omega,HTL.out.symm,H1.out⟩
 case round=>
  clear H1 HTL;obtain⟨m,l',rfl,hm9,hl',hres,hst⟩:=hrel;have hst2:=hst.perm (show _=bD B (aM black) be*(aB Wb l' low*(R*F)) by ac_rfl)
  by_cases h64:64≤m
  ·have h64':(64:Int)≤m:=by omega
   by_cases hg:2560≤m
   ·have hg':(2560:Int)≤m:=by omega
    rw[xg hg,mi] at hres;obtain⟨v,hv,hvn⟩:=lh black (i:=103) (by omega);have hvl:=mh black v (aI hv);have hvb:=nA black v (aI hv);have hvg:(aM black).getD 103 []=v:=by rw[List.getD_eq_getElem?_getD,hv];rfl
    rw[hvg,← List.append_assoc] at hres;have HC:=ac (sw hst2 (j:=(103:Int)) 103 rfl hv hvn hvb (by omega) (by omega));have HR:=ac hres;clear hres hst hst2 hv;have hmin:min (m:Int) 2560=2560:=by omega
    have hs:(m:Int)-2560=((m-2560:Nat):Int):=by omega
    go_wp2_with fail;refine HC.out.mono ?_;rintro e w2 ⟨rfl,h3⟩;have H3:=ac (h3.perm (show _=bD B (aM black) be*(R*(aB Wb (l'++v) low*F)) by ac_rfl));clear h3;go_wp2_with fail;exact⟨⟨m-2560,l'++v,by first | rfl | go_num,by omega,by rw[ae];omega,HR.out,H3.out⟩,by simp [intOf];omega⟩
   ·have hg':¬ (2560:Int)≤m:=by omega
    rw[xh (by omega) h64,mi] at hres;obtain⟨v,hv,hvn⟩:=lh black (i:=63+m/64) (by omega);have hvl:=mh black v (aI hv);have hvb:=nA black v (aI hv);have hvg:(aM black).getD (63+m/64) []=v:=by rw[List.getD_eq_getElem?_getD,hv];rfl
    rw[hvg,← List.append_assoc] at hres;obtain⟨i,hi⟩:∃ i,i=63+m/64:=⟨_,rfl⟩;rw[← hi] at hv;have HC:=ac (sw hst2 (j:=(i:Int)) i rfl hv hvn hvb (by omega) (by omega));have HR:=ac hres;clear hres hst hst2 hv;have hmin:min (m:Int) 2560=(m:Int):=by omega
    obtain⟨kq,hkq⟩:∃ kq,kq=m/64:=⟨_,rfl⟩;obtain⟨r0,hr0⟩:∃ r0,r0=64*kq:=⟨_,rfl⟩;obtain⟨m2,hm2⟩:∃ m2,m2=m%64:=⟨_,rfl⟩;rw[← hm2] at HR;have hq:(m:Int)/64=(kq:Int):=by omega
    have hii:(63:Int)+(kq:Int)=(i:Int):=by omega
    have hs0:(64:Int)*(kq:Int)=(r0:Int):=by omega
    have hs:(m:Int)-(r0:Int)=(m2:Int):=by omega
    have hb1:kq≤39:=by omega
    have hb2:r0≤2560:=by omega
    have hb3:m2<64:=by omega
    have hb4:m2≤m-64:=by omega
    have hb5:i<104:=by omega
    clear hi hkq hr0 hm2 hvg;go_wp2_with fail;refine HC.out.mono ?_;rintro e w2 ⟨rfl,h3⟩;have H3:=ac (h3.perm (show _=bD B (aM black) be*(R*(aB Wb (l'++v) low*F)) by ac_rfl));clear h3;go_wp2_with fail;exact⟨⟨m2,l'++v,by first | rfl | go_num,by omega,by rw[ae];omega,HR.out,H3.out⟩,by simp [intOf];omega⟩
  ·have h64':¬ (64:Int)≤m:=by omega
   rw[xi (by omega)] at hres;obtain⟨v,hv,hvn⟩:=lh black (i:=m) (by omega);have hvl:=mh black v (aI hv);have hvb:=nA black v (aI hv);have hvg:fF (aM black) [m]=v:=by simp [fF,hv]
   rw[hvg] at hres;have HC:=ac (sw hst2 (j:=(m:Int)) m rfl hv hvn hvb (by omega) (by omega));have HR:=ac hres;clear hres hst hst2 hv hvg;go_wp2_with fail;refine HC.out.mono ?_;rintro e w2 ⟨rfl,h3⟩;have H3:=ac (h3.perm (show _=bD B (aM black) be*(R*(aB Wb (l'++v) low*F)) by ac_rfl));clear h3;go_wp2_with fail;go_ret;exact⟨rfl,by rw[← HR.out];exact HSH.out _ _ H3.out⟩
theorem sE {i:Nat} (h:i<10):∃ w,aP[i]? =some w∧w≠[]:=by
 have hl:i<aP.length:=by rw[lg];exact h
 refine⟨_,au hl,fun h0=> ?_⟩;have:=(pM _ (cT hl)).1;rw[h0] at this;exact absurd this (by decide)
theorem sF {w0 w:World} {C Wb:Nat} {F:SProp} {l:List Nat} {low:Bool} (h:St w0 w (aA C*(aB Wb l low*F))) (i:Nat) (hi:i≤8) (hm:l.length≤1000000000) {j:Int} (hj:j=(i:Int)-3):
  Calls Tryz.prog 145 #[.pointer (some ⟨C,0,none⟩),.pointer (some ⟨Wb,0,none⟩),.int .i64 j] w fun e w'=>e= .returned (.int .i64 0)∧St w0 w' (aA C*(aB Wb (l++aP.getD i []) low*F)):=by
 obtain⟨B0,B1,Bm,h1⟩:=sB h;have c2:=h1.cell 2 rfl;obtain⟨v,hv,hvn⟩:=sE (i:=i) (by omega);have hvl:=pM v (aI hv);have hvb:=so v (aI hv);have hvg:aP.getD i []=v:=by rw[List.getD_eq_getElem?_getD,hv];rfl
 rw[hvg];have HC:=ac (DU (h1.perm (show _=en Bm aP eL*(aB Wb l low*(blk C (.cells #[.pointer (some ⟨B0,0,none⟩),.pointer (some ⟨B1,0,none⟩),.pointer (some ⟨Bm,0,none⟩)] 186)*(bD B0 (aM false) be*(bD B1 (aM true) be*F)))) by ac_rfl)) (j:=(i:Int)) i rfl hv hvn hvb (by omega) (by omega));clear h h1 hv hvg;have h1:¬ j< -3:=by omega
 have h2:¬ 5<j:=by omega
 have h3:j- -3=(i:Int):=by omega
 have h4:j+3=(i:Int):=by omega
 have hdj:decide (j< -3)=false:=by simpa using h1
 clear hj;go_enter Tryz.func145,Tryz.ntmps145;go_wp2_with fail;refine HC.out.mono ?_;rintro e w2 ⟨rfl,h5⟩;have H5:=ac h5;clear h5;go_wp2_with fail;go_ret;exact⟨rfl,nF (H5.out.perm (by ac_rfl))⟩
theorem D8 (black:Bool) (K:List Nat):Bit (fF (aM black) K):=DY (nA black) K
theorem pQ (black:Bool) (n:Nat):Bit (cK black n):=D8 black _
def cl (b:Bool):Nat:=cond b 1 0
theorem nH {b:Bool} {x:Nat} (hx:x≤1) (h:x≠cl b):x=cl (!b):=by
 cases b <;> simp [cl] at* <;> omega
theorem xn (b:Bool):cl (!b)≠cl b:=by cases b <;> decide
theorem D9 (b:Bool):cl b≤1:=by cases b <;> decide
def bi (c i:Nat):List Nat→List Nat
 | []=>[]
 | x::r=>if x=c then bi c (i+1) r else i::bi x (i+1) r
def af (p:List Nat):List Nat:=bi 0 0 p
def dP (c:Nat) (p:List Nat):Nat:=p.getLastD c
def aT (n:Nat) (b:Bool):List Nat:=List.replicate n (cl b)
theorem jR (n:Nat) (b:Bool):Bit (aT n b):=fun x hx=>by
 rw[uB hx];exact D9 b
@[simp] theorem sG (n:Nat) (b:Bool):(aT n b).length=n:=by simp [aT]
theorem xo (q:List Nat):∀ (p:List Nat) (c i:Nat),bi c i (p++q)=bi c i p++bi (dP c p) (i+p.length) q:=by
 intro p
 induction p with
 | nil=>intro c i;simp [bi,dP]
 | cons x r ih=>
  intro c i;have hl:dP c (x::r)=dP x r:=List.getLastD_cons ..;have h1:i+(x::r).length=i+1+r.length:=by simp;omega
  by_cases hx:x=c
  ·subst hx;rw[dV,bi,if_pos rfl,bi,if_pos rfl,ih,hl,h1]
  ·rw[dV,bi,if_neg hx,bi,if_neg hx,ih,hl,h1,dV]
theorem sH (c:Nat):∀ (n i:Nat),bi c i (List.replicate n c)=[]:=by
 intro n
 induction n with
 | zero=>intro i;rfl
 | succ n ih=>intro i;rw[gU,bi,if_pos rfl,ih]
theorem Ea {c d:Nat} (h:d≠c) (n i:Nat):bi c i (List.replicate (n+1) d)=[i]:=by
 rw[gU,bi,if_neg h,sH]
theorem pR:∀ (p:List Nat) (c i:Nat),∀ x∈bi c i p,i≤x∧x<i+p.length:=by
 intro p
 induction p with
 | nil=>intro c i x hx;cases hx
 | cons y r ih=>
  intro c i x hx;rw[bi] at hx
  split at hx
  ·have:=ih _ _ x hx;simp;omega
  ·rcases List.mem_cons.1 hx with rfl | hx
   ·simp
   ·have:=ih _ _ x hx;simp;omega
theorem Eb:∀ (p:List Nat) (c i:Nat),(bi c i p).Pairwise (· < ·):=by
 intro p
 induction p with
 | nil=>intro c i;exact List.Pairwise.nil
 | cons y r ih=>
  intro c i;rw[bi]
  split
  ·exact ih _ _
  ·refine List.Pairwise.cons (fun x hx=> ?_) (ih _ _);have:=pR _ _ _ x hx;omega
theorem xp:∀ (p:List Nat) (c i:Nat),(bi c i p).length≤p.length:=by
 intro p
 induction p with
 | nil=>intro c i;exact Nat.le_refl _
 | cons y r ih=>
  intro c i;rw[bi]
  split
  ·have:=ih c (i+1);simp;omega
  ·have:=ih y (i+1);simp;omega
theorem Ec (p:List Nat) (n:Nat) (b:Bool):af (p++aT n b)=if n=0∨dP 0 p=cl b then af p else af p++[p.length]:=by
 rw[af,xo,bA];cases n with
 | zero=>rw[if_pos (.inl rfl)];simp [aT,bi,af]
 | succ n=>
  by_cases h:dP 0 p=cl b
  ·rw[if_pos (.inr h),h,aT,sH,cy];rfl
  ·rw[if_neg (by simp [h]),aT,Ea (fun e=>h e.symm)];rfl
theorem xq (p:List Nat) (n:Nat) (b:Bool):dP 0 (p++aT n b)=if n=0 then dP 0 p else cl b:=by
 cases n with
 | zero=>simp [aT]
 | succ n=>rw[if_neg (by omega),aT,iO,← List.append_assoc,dP];simp
def eo (l:List Nat) (x:Nat):List Nat:=if l.getLast? =some x then l.dropLast else l++[x]
theorem xr (l:List Nat) (x:Nat):eo (l++[x]) x=l:=by simp [eo]
theorem xt {l:List Nat} {x:Nat} (h:∀ y∈l,y<x):eo l x=l++[x]:=by
 rw[eo,if_neg];intro e;have:=h x (K3 e);omega
def dQ (row px:List Nat) (b:Bool) (width:Nat):Prop:=row=if dP 0 px=cl b∨px.length=width then af px else af px++[px.length]
theorem xu (width:Nat):dQ [] [] false width:=by simp [dQ,dP,cl,af,bi]
theorem gK (p:List Nat):∀ x∈af p,x<p.length:=fun x hx=>by
 have:=pR p 0 0 x hx;omega
theorem sI {row px:List Nat} {b:Bool} {width:Nat} (h:dQ row px b width) (he:px.length=width):row=af px:=by
 rw[dQ,if_pos (.inr he)] at h;exact h
theorem xw {p:List Nat} (h:Bit p):dP 0 p≤1:=by
 rw[dP,List.getLastD_eq_getLast?];cases hq:p.getLast? with
 | none=>simp
 | some x=>exact h x (K3 hq)
theorem sJ {row px:List Nat} {b:Bool} {width n:Nat} (h:dQ row px b width) (hn:0<n) (hw:px.length+n≤width):row=af (px++aT n b):=by
 rw[dQ] at h;rw[Ec,h]
 by_cases h1:dP 0 px=cl b
 ·rw[if_pos (.inl h1),if_pos (.inr h1)]
 ·rw[if_neg (by intro h2;rcases h2 with h2 | h2;exact h1 h2;omega),if_neg (by intro h2;rcases h2 with h2 | h2;omega;exact h1 h2)]
theorem Ed {row px:List Nat} {b:Bool} {width n:Nat} (h:dQ row px b width) (hn:0<n) (hw:px.length+n≤width):dQ row (px++aT n b) b width:=by
 rw[dQ,if_pos (.inl (by rw[xq,if_neg (by omega)]))];exact sJ h hn hw
theorem sK {row px:List Nat} {b:Bool} {width n:Nat} (hb:Bit px) (h:dQ row px b width) (hw:px.length+n≤width):
  dQ (if px.length+n<width then eo row (px.length+n) else row) (px++aT n b) (!b) width:=by
 have hl:(px++aT n b).length=px.length+n:=by simp
 rw[dQ,hl]
 by_cases hlt:px.length+n<width
 ·rw[if_pos hlt]
  by_cases hn:n=0
  ·subst hn;have e0:px++aT 0 b=px:=by simp [aT]
   rw[e0,fQ];rw[dQ] at h
   by_cases h1:dP 0 px=cl b
   ·rw[if_pos (.inl h1)] at h;rw[if_neg (by rintro(h2 | h2);exact xn b (h2.symm.trans h1);omega),h,xt (gK px)]
   ·rw[if_neg (by rintro(h2 | h2);exact h1 h2;omega)] at h;rw[if_pos (.inl (nH (xw hb) h1)),h,xr]
  ·have hr:=sJ h (by omega) hw;have hc:dP 0 (px++aT n b)=cl b:=by rw[xq,if_neg hn]
   rw[hc,if_neg (by rintro(h2 | h2);exact xn b h2.symm;omega),hr,xt (fun y hy=>by have:=gK _ y hy;omega)]
 ·rw[if_neg hlt,if_pos (.inr (by omega))]
  by_cases hn:n=0
  ·subst hn;have e0:px++aT 0 b=px:=by simp [aT]
   rw[e0];exact sI h (by omega)
  ·exact sJ h (by omega) hw
def br (par:Bool) (at':Int) (toB:Bool) (width:Nat):List Nat→Nat × Nat
 | []=>(width,width)
 | x::r=>if at'<(x:Int)∧par=toB then(x,r.headD width) else br (!par) at' toB width r
theorem lk {at':Int} {toB:Bool} {width:Nat}:∀ (l:List Nat) (par:Bool),l.Pairwise (· < ·)→(∀ x∈l,x<width)→at'<width→
  at'<((br par at' toB width l).1:Int)∧(br par at' toB width l).1≤(br par at' toB width l).2∧(br par at' toB width l).2≤width∧((br par at' toB width l).1<width→(br par at' toB width l).1<(br par at' toB width l).2):=by
 intro l
 induction l with
 | nil=>intro par _ _ h;exact⟨h,Nat.le_refl _,Nat.le_refl _,fun h=>absurd h (Nat.lt_irrefl _)⟩
 | cons x r ih=>
  intro par hp hb h;rw[br]
  split
  ·rename_i hx;have hxw:=hb x (by simp);cases r with
   | nil=>simp;omega
   | cons y r=>
    have h1:=(dY.1 hp).1 y (by simp);have h2:=hb y (by simp);simp;omega
  ·exact ih _ (dY.1 hp).2 (fun y hy=>hb y (by simp [hy])) h
def bg (was:Nat) (l:List Nat) (width:Nat):List Nat:=match l with
 | []=>[width-was]
 | x::r=>(x-was)::bg x r width
def bE (b:Bool):List Nat→List Nat
 | []=>[]
 | n::r=>cK b n++bE (!b) r
def cL (row top:List Nat) (width:Nat):Nat→Int→Bool→List Nat
 | 0,_,_=>[]
 | f+1,at',b=>
  if at'<width then
   let a:=br true at' (!b) width row
   let c:=br true at' (!b) width top
   if c.2<a.1 then aP.getD 8 []++cL row top width f c.2 b
   else if a.1≤c.1+3∧c.1≤a.1+3 then aP.getD (a.1+3-c.1) []++cL row top width f a.1 (!b)
   else aP.getD 7 []++(cK b (a.1-(max at' 0).toNat)++(cK (!b) (a.2-a.1)++cL row top width f a.2 b))
  else []
def jS (t:List Nat) (width:Nat):Nat→Nat→List Nat→Bool→Nat × (List Nat ⊕ Nat)
 | 0,p,_,_=>(p,.inr 99)
 | f+1,p,px,b=>
  match fG b t ((width-px.length:Nat):Int) p with
  | (k,.inr e)=>(k,.inr e)
  | (k,.inl n)=>if px.length+n=width then(k,.inl (px++aT n b)) else jS t width f k (px++aT n b) (!b)
def two (t:List Nat) (width:Nat) (k:Nat) (px:List Nat) (b:Bool):Nat × (List Nat ⊕ Nat):=
 match fG b t ((width-px.length:Nat):Int) k with
 | (k1,.inr e)=>(k1,.inr e)
 | (k1,.inl n1)=>
  match fG (!b) t ((width-(px.length+n1):Nat):Int) k1 with
  | (k2,.inr e)=>(k2,.inr e)
  | (k2,.inl n2)=>(k2,.inl (px++aT n1 b++aT n2 (!b)))
def mj (t top:List Nat) (width:Nat) (p:Nat) (px:List Nat) (b:Bool) (at':Int):Nat × ((List Nat × Bool × Int) ⊕ Nat):=
 match iW t p with
 | (k,.inr e)=>(k,.inr e)
 | (k,.inl m)=>
  let c:=br true at' (!b) width top
  if m=5 then(k,.inl (px++aT (c.2-px.length) b,b,(c.2:Int)))
  else if m=4 then
   match two t width k px b with
   | (k2,.inr e)=>(k2,.inr e)
   | (k2,.inl px2)=>(k2,.inl (px2,b,(px2.length:Int)))
  else if(c.1:Int)+m≤at'∨(c.1:Int)+m<0∨(width:Int)<(c.1:Int)+m then(k,.inr 3)
  else(k,.inl (px++aT (((c.1:Int)+m).toNat-px.length) b, !b,(c.1:Int)+m))
def jv (t top:List Nat) (width:Nat):Nat→Nat→List Nat→Bool→Int→Nat × (List Nat ⊕ Nat)
 | 0,p,_,_,_=>(p,.inr 99)
 | f+1,p,px,b,at'=>
  if at'<width then
   match mj t top width p px b at' with
   | (k,.inr e)=>(k,.inr e)
   | (k,.inl (px',b',a'))=>jv t top width f k px' b' a'
  else(p,.inl px)
def lm (px:List Nat) (at':Int):Prop:=(at'= -1∧px=[])∨at'=px.length
theorem Ee {W t:List _} {most:Int}:∀ (f p n k z:Nat),gJ W t most f p n=(k,.inl z)→p≤t.length→p<k∧k≤t.length∧(z:Int)≤most:=by
 intro f
 induction f with
 | zero=>intro p n k z h;rw[gJ] at h;cases h
 | succ f ih=>
  intro p n k z h hp;have hl:=iT W (t.drop p) [];rw[a8] at hl;rw[gJ] at h;cases hr:aX W [] (t.drop p) with
  | mk k1 r=>
   rw[hr] at h hl;cases r with
   | inr e=>cases h
   | inl i=>
    have h1:=(hl.2.2.2.1 i rfl).1;have h2:=hl.2.1;simp only[bI] at h1 h2 h
    split at h
    ·cases h
    ·split at h
     ·cases h;omega
     ·have:=ih _ _ _ _ h (by omega);omega
theorem Ef {W t:List _} {most:Int}:∀ (f p n k e:Nat),gJ W t most f p n=(k,.inr e)→p≤t.length→k≤t.length∧e≠0∧e<100:=by
 intro f
 induction f with
 | zero=>intro p n k e h hp;rw[gJ] at h;cases h;omega
 | succ f ih=>
  intro p n k e h hp;have hl:=iT W (t.drop p) [];rw[a8] at hl;rw[gJ] at h;cases hr:aX W [] (t.drop p) with
  | mk k1 r=>
   rw[hr] at h hl;have h2:=hl.2.1;cases r with
   | inr e'=>
    have h1:=hl.2.2.2.2 e' rfl;simp only[bI] at h1 h2 h;cases h;omega
   | inl i=>
    simp only[bI] at h2 h
    split at h
    ·cases h;omega
    ·split at h
     ·cases h
     ·have h1:=(hl.2.2.2.1 i rfl).1;exact ih _ _ _ _ h (by omega)
theorem pS {b:Bool} {t:List Nat} {most:Int} {p k z:Nat} (h:fG b t most p=(k,.inl z)) (hp:p≤t.length):p<k∧k≤t.length∧(z:Int)≤most:=Ee _ _ _ _ _ h hp
theorem pT {b:Bool} {t:List Nat} {most:Int} {p k e:Nat} (h:fG b t most p=(k,.inr e)) (hp:p≤t.length):k≤t.length∧e≠0∧e<100:=Ef _ _ _ _ _ h hp
theorem xx {t:List Nat} {p k:Nat} {m:Int} (h:iW t p=(k,.inl m)) (hp:p≤t.length):p<k∧k≤t.length∧ -3≤m∧m≤5:=by
 have hl:=iT aP (t.drop p) [];rw[a8] at hl;rw[iW] at h;cases hr:aX aP [] (t.drop p) with
 | mk k1 r=>
  rw[hr] at h hl;cases r with
  | inr e=>cases h
  | inl i=>
   have h1:=hl.2.2.2.1 i rfl;have h2:=hl.2.1;rw[lg] at h1;simp only[bI] at h1 h2 h
   split at h
   ·cases h
   ·cases h;omega
theorem xy {t:List Nat} {p k e:Nat} (h:iW t p=(k,.inr e)) (hp:p≤t.length):k≤t.length∧e≠0∧e<100:=by
 have hl:=iT aP (t.drop p) [];rw[a8] at hl;rw[iW] at h;cases hr:aX aP [] (t.drop p) with
 | mk k1 r=>
  rw[hr] at h hl;have h2:=hl.2.1;cases r with
  | inr e=>
   have h1:=hl.2.2.2.2 e rfl;simp only[bI] at h1 h2 h;cases h;omega
  | inl i=>
   simp only[bI] at h2 h
   split at h
   ·cases h;omega
   ·cases h
def iX (was width:Int):List Int→Bool
 | []=>true
 | x::r=>if x≤was∨width≤x then false else iX x width r
theorem pU:∀ (l:List Nat) (was:Int) (width:Nat),(∀ x∈l,was<(x:Int)∧x<width)→l.Pairwise (· < ·)→iX was width (l.map Int.ofNat)=true:=by
 intro l
 induction l with
 | nil=>intro _ _ _ _;rfl
 | cons x r ih=>
  intro was width h hp;have hx:=h x (by simp);obtain⟨h1,h2⟩:=dY.1 hp;rw[cO,iX,if_neg (by simp;omega)];exact ih _ _ (fun y hy=>⟨by simpa using h1 y hy,(h y (by simp [hy])).2⟩) h2
theorem nI (l:List Nat):(l.map Int.ofNat).map iv=l.map nv:=by rw[eU];rfl
theorem nJ {w:World} {l:List Int} {v:Value} (width:Int) (hr:Reads w 1 v l.length (l.map iv)):
  Calls Tryz.prog 126 #[v,.int .i64 width] w fun e w'=>e= .returned (.bool (iX (-1) width l))∧w'=w:=by
 obtain⟨al,c,rfl⟩:=hr.sub;have hm:=hr.len_le;unfold maxLen at hm;have HR:=ac hr;clear hr;obtain⟨res,hres⟩:∃ res,iX (-1) width l=res:=⟨_,rfl⟩;rw[hres];have HRES:=ac hres;clear hres;go_enter Tryz.func126,Tryz.ntmps126;go_wp2_with fail
 go_loop [5,10] (fun vs vi=>∃ (k:Nat) (was:Int),k≤l.length∧vi= .int .i64 k∧vs= .int .i64 was∧iX was width (l.drop k)=res) (fun _ vi=>l.length-(intOf vi).toNat)
 case atStart=>exact⟨0, -1,by omega,rfl,rfl,HRES.out⟩
 case round=>
  obtain⟨k,was,hk,rfl,rfl,hst⟩:=hrel
  by_cases hkn:k<l.length
  ·obtain⟨g,o,rfl,e1⟩:=HR.out.at_ hkn;have hx:=au hkn;rw[aC,hx] at e1;simp only[b7,iv] at e1;rw[dX hkn,iX] at hst;clear hx;generalize l[k]=x at*
   have hkl:(k:Int)<l.length:=by omega
   by_cases h1:x≤was
   ·rw[if_pos (.inl h1)] at hst;subst hst;go_wp2_with fail;go_ret;exact⟨rfl,rfl⟩
   ·by_cases h2:width≤x
    ·rw[if_pos (.inr h2)] at hst;subst hst;go_wp2_with fail;go_ret;exact⟨rfl,rfl⟩
    ·rw[if_neg (by omega)] at hst;have HST:=ac hst;clear hst;go_wp2_with fail;exact⟨⟨k+1,x,by omega,by go_num,rfl,HST.out⟩,by simp [intOf];omega⟩
  ·obtain rfl:k=l.length:=by omega
   rw[kL,iX] at hst;subst hst;go_wp2_with fail;go_ret;exact⟨rfl,rfl⟩
theorem Eg {l:List Nat} {at':Int} {toB:Bool} {width k:Nat} (hk:k<l.length) (par:Bool):br par at' toB width (l.drop k)=if at'<(l[k]:Int)∧par=toB then(l[k],(l.drop (k+1)).headD width) else br (!par) at' toB width (l.drop (k+1)):=by
 rw[dX hk,br]
theorem sL {w:World} {l:List Nat} {v:Value} (at':Int) (toB:Bool) (width:Nat) (hr:Reads w 1 v l.length (l.map nv)) (hl:l.length≤1000000):
  Calls Tryz.prog 144 #[v,.int .i64 at',.bool toB,.int .i64 (width:Int)] w fun e w'=>e= .returned (.tuple #[.int .i64 ((br true at' toB width l).1:Nat),.int .i64 ((br true at' toB width l).2:Nat)])∧∃ n,w'=w.drewN n:=by
 obtain⟨al,c,rfl⟩:=hr.sub;have HR:=ac hr;clear hr;obtain⟨res,hres⟩:∃ res,br true at' toB width l=res:=⟨_,rfl⟩;rw[hres];have HRES:=ac hres;clear hres;go_enter Tryz.func144,Tryz.ntmps144;go_wp2_with fail
 go_loop [14] (fun vi=>∃ k:Nat,k≤l.length∧vi= .int .i64 k∧br (decide (k%2=0)) at' toB width (l.drop k)=res) (fun vi=>l.length-(intOf vi).toNat)
 case atStart=>exact⟨0,by omega,rfl,HRES.out⟩
 case round=>
  obtain⟨k,hk,rfl,hst⟩:=hrel
  by_cases hkn:k<l.length
  ·obtain⟨g,o,rfl,e1⟩:=HR.out.at_ hkn;have hx:=au hkn;rw[aC,hx] at e1;simp only[b7,nv] at e1;rw[Eg hkn] at hst;have hkl:(k:Int)<l.length:=by omega
   have hpar:(!decide (k%2=0))=decide ((k+1)%2=0):=by
    rcases uC k with h | h
    ·rw[h,show(k+1)%2=1 by omega];rfl
    ·rw[h,show(k+1)%2=0 by omega];rfl
   rw[hpar] at hst;have HN:∀ (hk2:k+1<l.length),∃ y:Nat,(l.drop (k+1)).headD width=y∧w.cell? ⟨g,o+(k+1),none⟩=some (.int .i64 (y:Int)):=fun hk2=>by
    obtain⟨g',o',he,e2⟩:=HR.out.at_ hk2;cases he;rw[aC,au hk2] at e2;rw[dX hk2];exact⟨_,rfl,e2⟩
   have HN:=ac HN;have hz:¬ k+1<l.length→(l.drop (k+1)).headD width=width:=fun h=>by rw[AC (by omega)];rfl
   have HZ:=ac hz;have hm2:(k:Int)%2=((k%2:Nat):Int):=by omega
   clear hx hz hpar;generalize l[k]=x at*
   by_cases h1:at'<(x:Int)
   ·rcases uC k with h2 | h2
    ·rw[h2] at hst hm2;cases toB
     ·rw[if_neg (by simp)] at hst;have HST:=ac hst;clear hst h2;go_wp2_with fail;exact⟨⟨k+1,by omega,by go_num,HST.out⟩,by simp [intOf];omega⟩
     ·rw[if_pos ⟨h1,by simp⟩] at hst;clear h2
      by_cases hk2:k+1<l.length
      ·obtain⟨y,hy,e2⟩:=HN.out hk2;rw[hy] at hst;have HST:=ac hst;clear hst;have hk3:((k:Int)+1)<l.length:=by omega
       clear hy;go_upto_region 6 with (fail)
       go_quiet (fail);go_wp2_with fail;go_ret2;exact⟨by rw[← HST.out];rfl,_,rfl⟩
      ·rw[HZ.out hk2] at hst;have HST:=ac hst;clear hst;have hk3:¬ ((k:Int)+1)<l.length:=by omega
       go_wp2_with fail;go_ret2;exact⟨by rw[← HST.out];rfl,0,rfl⟩
    ·rw[h2] at hst hm2;cases toB
     ·rw[if_pos ⟨h1,by simp⟩] at hst;clear h2
      by_cases hk2:k+1<l.length
      ·obtain⟨y,hy,e2⟩:=HN.out hk2;rw[hy] at hst;have HST:=ac hst;clear hst;have hk3:((k:Int)+1)<l.length:=by omega
       clear hy;go_upto_region 6 with (fail)
       go_quiet (fail);go_wp2_with fail;go_ret2;exact⟨by rw[← HST.out];rfl,_,rfl⟩
      ·rw[HZ.out hk2] at hst;have HST:=ac hst;clear hst;have hk3:¬ ((k:Int)+1)<l.length:=by omega
       go_wp2_with fail;go_ret2;exact⟨by rw[← HST.out];rfl,0,rfl⟩
     ·rw[if_neg (by simp)] at hst;have HST:=ac hst;clear hst h2;go_wp2_with fail;exact⟨⟨k+1,by omega,by go_num,HST.out⟩,by simp [intOf];omega⟩
   ·rw[if_neg (by simp [h1])] at hst;have HST:=ac hst;clear hst;go_wp2_with fail;exact⟨⟨k+1,by omega,by go_num,HST.out⟩,by simp [intOf];omega⟩
  ·obtain rfl:k=l.length:=by omega
   rw[kL,br] at hst;subst hst;go_wp2_with fail;go_ret2;exact⟨rfl,0,rfl⟩
theorem Reads.takeR {w:World} {g o n cap:Nat} {xs:List Value} (h:Reads w 1 (.slice (some ⟨g,o,none⟩) n cap) n xs) {k:Nat} (hk:k≤n):Reads w 1 (.slice (some ⟨g,o,none⟩) k cap) k (xs.take k):=by
 obtain⟨hl,⟨h0,_⟩ | ⟨x,c,h1,h2,h3,h4⟩⟩:=h
 ·cases h0
 ·cases h1;refine⟨by rw[aL,hl];omega,.inr ⟨_,_,rfl,by omega,h3,fun j u hu=>h4 j u ?_⟩⟩;rw[fP] at hu
  split at hu
  ·exact hu
  ·cases hu
theorem jw (l:List Nat):∀ u∈l.map nv,u.oneCell'=true:=by
 intro u hu;obtain⟨x,_,rfl⟩:=cu.1 hu;rfl
theorem ml (w:World) (x:Nat):Reads (w.alloc (.cells #[.int .i64 (x:Int)] 3)) 1 (.slice (some ⟨w.heap.size,0,none⟩) 1 1) 1 ([x].map nv):=nE w x
theorem xz {w0 w:World} {F:SProp} (h:St w0 w F) {l:List Nat} {v:Value} (hr:Stb w0 F (fun w=>Reads w 1 v l.length (l.map nv))) (x:Nat) (hl:l.length≤1000000):
  Calls Tryz.prog 162 #[v,.int .i64 (x:Int)] w fun e w'=>∃ v',e= .returned v'∧St w0 w' (own 3 1 v' (eo l x).length ((eo l x).map nv)*F):=by
 obtain⟨al,c,rfl⟩:=(hr w h).sub;have T:=eM;have hrd:=hr w h;have hl1:=h.lit #[] 3 0 rfl (by decide);have hx1:=hr _ hl1.right;have HL1:=ac hl1;have HX1:=ac hx1;have H:=ac h;clear hl1 hx1 h;have more:∀ v' w',St w0 w' (own 3 1 v' (l.length+1) (l.map nv++[x].map nv)*F)→eo l x=l++[x]→St w0 w' (own 3 1 v' (eo l x).length ((eo l x).map nv)*F):=fun v' w' h e=>by
  rw[e,ae,List.map_append];exact h
 have MORE:=ac more;clear more
 rcases re l with h0 | ⟨m,y,h0⟩
 ·have ht:eo l x=l++[x]:=by rw[h0];simp [eo]
  have HTG:=ac ht;clear ht;have hl0:l.length=0:=by rw[h0];rfl
  clear h0;have hd:¬ 0<(l.length:Int):=by omega
  clear hl0;go_enter Tryz.func162,Tryz.ntmps162;go_wp2_with (at_builtin;apply ap);refine on (aG T rfl _ _ rfl rfl HL1.out rfl HX1.out (jw l) (by unfold maxLen;omega) (by omega) ?_);intro v' w7 h9 _;rw[bH,bA] at h9;obtain⟨aN,cN,rfl⟩:=h9.reads.sub;have H9:=ac h9;clear h9;go_wp2_with (at_builtin;apply ap);refine on (aG T rfl _ _ rfl rfl (H9.out.drop_alloc (.cells #[.int .i64 (x:Int)] 3)) rfl (ml w7 x) (jw [x]) (by unfold maxLen;omega) (by omega) ?_);intro v' w8 h10 _;have H10:=ac (MORE.out _ _ h10 HTG.out);clear h10;go_wp2_with fail;go_ret;exact⟨_,rfl,H10.out⟩
 ·have hyl:m.length<l.length:=by rw[h0];simp
  obtain⟨g,o,rfl,e1⟩:=hrd.at_ hyl;have hy:l[m.length]? =some y:=by rw[h0,lN,ck (Nat.le_refl _)];simp
  rw[aC,hy] at e1;simp only[b7,nv] at e1;have hlm:(l.length:Int)-1=(m.length:Int):=by rw[h0];simp
  have hlp:0<(l.length:Int):=by omega
  by_cases hxy:y=x
  ·subst hxy;have ht:eo l y=m:=by rw[h0,lN,xr]
   have hrt:=Reads.takeR HX1.out (k:=m.length) (by omega);have e2:(l.map nv).take m.length=m.map nv:=by rw[← jI,h0,lN,lH]
   rw[e2] at hrt;rw[ht];have hcl:m.length≤c:=by
    obtain⟨_,⟨h0,_⟩ | ⟨x,c,h1,h2,_,_⟩⟩:=hrd
    ·cases h0
    ·cases h1;omega
   have hcl2:(m.length:Int)≤c:=by omega
   have HRT:=ac hrt;have hml:m.length≤1000000:=by omega
   clear hrt e2 ht hrd hy h0 HX1;go_enter Tryz.func162,Tryz.ntmps162;go_wp2_with (at_builtin;apply ap);refine on (aG T rfl _ _ rfl rfl HL1.out rfl HRT.out (jw m) (by unfold maxLen;omega) (by omega) ?_);intro v' w7 h9 _;rw[bH,bA] at h9;have H9:=ac h9;clear h9;go_wp2_with fail;go_ret;exact⟨_,rfl,H9.out⟩
  ·have ht:eo l x=l++[x]:=by rw[eo,if_neg];rw[h0,lN];simpa using hxy
   have HTG:=ac ht;clear ht;have hxy2:¬ (y:Int)=x:=by omega
   clear hrd hy h0 hxy;go_enter Tryz.func162,Tryz.ntmps162;go_wp2_with (at_builtin;apply ap);refine on (aG T rfl _ _ rfl rfl HL1.out rfl HX1.out (jw l) (by unfold maxLen;omega) (by omega) ?_);intro v' w7 h9 _;rw[bH,bA] at h9;obtain⟨aN,cN,rfl⟩:=h9.reads.sub;have H9:=ac h9;clear h9;go_wp2_with (at_builtin;apply ap);refine on (aG T rfl _ _ rfl rfl (H9.out.drop_alloc (.cells #[.int .i64 (x:Int)] 3)) rfl (ml w7 x) (jw [x]) (by unfold maxLen;omega) (by omega) ?_);intro v' w8 h10 _;have H10:=ac (MORE.out _ _ h10 HTG.out);clear h10;go_wp2_with fail;go_ret;exact⟨_,rfl,H10.out⟩
def ln (was:Nat):List Nat→List Nat
 | []=>[]
 | x::r=>(x-was)::ln x r
theorem Eh (l:List Nat) (width:Nat):∀ was,bg was l width=ln was (l++[width]):=by
 induction l with
 | nil=>intro was;rfl
 | cons x r ih=>intro was;rw[bg,ih,dV,ln]
theorem xA (l:List Nat) (width:Nat):∀ was,(bg was l width).length=l.length+1:=by
 induction l with
 | nil=>intro was;rfl
 | cons x r ih=>intro was;simp [bg,ih]
theorem Ei {w0 w:World} {F:SProp} (h:St w0 w F) {l:List Nat} {v:Value} {width:Nat} (hr:Stb w0 F (fun w=>Reads w 1 v l.length (l.map nv))) (hp:l.Pairwise (· < ·)) (hb:∀ x∈l,x<width) (hw:width≤32768) (hl:l.length≤1000000):
  Calls Tryz.prog 141 #[v,.int .i64 (width:Int)] w fun e w'=>∃ v',e= .returned (.tuple #[v',.int .i64 0])∧St w0 w' (own 3 1 v' (bg 0 l width).length ((bg 0 l width).map nv)*F):=by
 obtain⟨al,c,rfl⟩:=(hr w h).sub;have T:=eM;have hrg:iX (-1) (width:Int) (l.map Int.ofNat)=true:=pU l _ _ (fun x hx=>⟨by omega,hb x hx⟩) hp;have HRG:=ac (by
  have C:=nJ (l:=l.map Int.ofNat) (v:= .slice al l.length c) (width:Int) (w:=w) (by rw[nI,bS];exact hr w h);rw[hrg] at C;exact C)
 have hl1:=h.lit #[] 3 0 rfl (by decide);have hx1:=hr _ hl1.right;have HL1:=ac hl1;have HX1:=ac hx1;obtain⟨L,hL⟩:∃ L,L=l++[width]:=⟨_,rfl⟩;obtain⟨res,hres⟩:∃ res,res=bg 0 l width:=⟨_,rfl⟩;have hdL:[]++ln 0 (L.drop 0)=res:=by rw[hres,Eh,hL];rfl
 have hLl:L.length=l.length+1:=by rw[hL];simp
 have hmo:∀ k (hk:k<L.length),L[k]≤width∧(∀ j,j<k→L.getD j 0≤L[k]):=by
  subst hL;intro k hk;have hpp:(l++[width]).Pairwise (· < ·):=K4.2 ⟨hp,AD _ _,fun a ha b hb2=>by rw[List.mem_singleton.1 hb2];exact hb a ha⟩;refine⟨?_,fun j hj=> ?_⟩
  ·have hm:=cT hk
   rcases cD.1 hm with h | h
   ·exact kO (hb _ h)
   ·rw[List.mem_singleton.1 h];exact Nat.le_refl _
  ·have:=oL.1 hpp j k (by omega) hk hj;rw[List.getD_eq_getElem?_getD,au (by omega)];exact kO this
 have HMO:=ac hmo;have HDL:=ac hdL;have h2:∀ v' w',St w0 w' (own 3 1 v' (l.length+1) (l.map nv++[width].map nv)*F)→St w0 w' (own 3 1 v' L.length (L.map nv)*F):=fun v' w' h=>by
  rw[hL,ae,List.map_append];exact h
 have H2:=ac h2;have HLL:=ac hLl;have hLm:L.length≤1000001:=by omega
 rw[← hres];clear hrg hl1 hx1 hL hres hdL hmo hp hb h2 hLl;have H:=ac h;clear h;have hw1:¬ (width:Int)<0:=by omega
 have hw2:¬ (32768:Int)<width:=by omega
 go_enter Tryz.func141,Tryz.ntmps141;go_wp2_with fail;refine HRG.out.mono ?_;rintro e w2 ⟨rfl,rfl⟩;go_wp2_with (at_builtin;apply ap);refine on (aG T rfl _ _ rfl rfl HL1.out rfl HX1.out (jw l) (by unfold maxLen;omega) (by omega) ?_);intro v3 w3 h3 _;rw[bH,bA] at h3;obtain⟨a3,c3,rfl⟩:=h3.reads.sub;have H3:=ac h3;clear h3;go_wp2_with (at_builtin;apply ap);refine on (aG T rfl _ _ rfl rfl (H3.out.drop_alloc (.cells #[.int .i64 (width:Int)] 3)) rfl (ml w3 width) (jw [width]) (by unfold maxLen;omega) (by omega) ?_);intro v4 w4 h4 _;have h4:=H2.out _ _ h4;obtain⟨a4,c4,rfl⟩:=h4.reads.sub;have H4:=ac (St.own_nil 3 1 h4);clear h4 H3 HL1 HX1 HRG H;go_wp2_with fail
 go_loopw [6,7,29] (fun vo vs vi wr=>∃ (k was:Nat) (acc:List Nat) (ao:Option Addr) (co:Nat),k≤L.length∧vi= .int .i64 k∧vo= .slice ao acc.length co∧vs= .int .i64 was∧was=(if k=0 then 0 else L.getD (k-1) 0)∧was≤width∧acc.length=k∧acc++ln was (L.drop k)=res∧St w0 wr (own 3 1 (.slice ao acc.length co) acc.length (acc.map nv)*(own 3 1 (.slice a4 L.length c4) L.length (L.map nv)*F))) (fun _ _ vi _=>L.length-(intOf vi).toNat)
 case atStart=>exact⟨0,0,[],none,0,by omega,rfl,rfl,rfl,rfl,by omega,rfl,HDL.out,H4.out⟩
 case round=>
  clear H4;obtain⟨k,was,acc,ao,co,hk,rfl,rfl,rfl,hwas,hww,hal,hall,hst⟩:=hrel
  by_cases hkn:k<L.length
  ·obtain⟨g,o,rfl,e1⟩:=hst.right.reads.at_ hkn;have hx:=au hkn;rw[aC,hx] at e1;simp only[b7,nv] at e1;rw[dX hkn,ln,List.append_cons] at hall;have hxw:=(HMO.out k hkn).1;have hwx:was≤L[k]:=by
    rw[hwas]
    split
    ·omega
    ·exact(HMO.out k hkn).2 _ (by omega)
   have hnx:L[k]=(if k+1=0 then 0 else L.getD (k+1-1) 0):=by
    rw[if_neg (by omega),rf,List.getD_eq_getElem?_getD,hx];rfl
   have hkl:(k:Int)<L.length:=by omega
   clear hx hwas;generalize L[k]=x at*
   have hsub:(x:Int)-was=((x-was:Nat):Int):=by omega
   have hsw:x-was≤32768:=by omega
   generalize x-was=d at*
   have HALL:=ac hall;have HNX:=ac hnx;have HST:=ac hst;have HAL:=ac hal;have haln:acc.length≤1000001:=by omega
   clear hall hnx hst hal;go_wp2_with (at_builtin;apply ap);refine on (aG T rfl _ _ rfl rfl (HST.out.drop_alloc (.cells #[.int .i64 (d:Int)] 3)) rfl (ml wr d) (jw [d]) (by unfold maxLen;omega) (by omega) ?_);intro v5 w5 h5 _;have h5:St w0 w5 (own 3 1 v5 (acc++[d]).length ((acc++[d]).map nv)*(own 3 1 (.slice (some ⟨g,o,none⟩) L.length c4) L.length (L.map nv)*F)):=by
    rw[ae,List.map_append];exact h5
   obtain⟨aN,cN,rfl⟩:=h5.reads.sub;have hle:(acc++[d]).length=acc.length+1:=by simp
   generalize acc++[d]=acc2 at*
   have H5:=ac h5;clear h5;rw[hle];have HLE:=ac hle;clear hle;go_wp2_with fail;refine⟨⟨k+1,x,acc2,aN,cN,by omega,by go_num,by rw[HLE.out],rfl,HNX.out,hxw,by rw[HLE.out,HAL.out],HALL.out,H5.out⟩,by simp [intOf];omega⟩
  ·obtain rfl:k=L.length:=by omega
   rw[kL,ln,cy] at hall;subst hall;have hst2:=(hst.perm (ak _ _ _)).right;have HST:=ac hst2;clear hst hst2 hal;go_wp2_with fail;go_ret2;exact⟨_,rfl,HST.out⟩
theorem Ej:∀ (p:List Nat) (d:Bool) (i:Nat),Bit p→∃ a,(bi (cl d) i p).headD (i+p.length)=a∧i≤a∧a≤i+p.length∧(∀ j,i≤j→j<a→p[j-i]? =some (cl d))∧(a<i+p.length→p[a-i]? =some (cl (!d))):=by
 intro p
 induction p with
 | nil=>intro d i _;exact⟨i,rfl,Nat.le_refl _,Nat.le_refl _,fun j h1 h2=>by omega,fun h=>by simp at h⟩
 | cons x r ih=>
  intro d i hb;have hW:i+(x::r).length=i+1+r.length:=by simp;omega
  rw[bi]
  by_cases hx:x=cl d
  ·rw[if_pos hx,hW];obtain⟨a,h1,h2,h3,h4,h5⟩:=ih d (i+1) fun y hy=>hb y (by simp [hy])
   refine⟨a,h1,by omega,h3,fun j hj1 hj2=> ?_,fun ha=> ?_⟩
   ·rcases oM hj1 with rfl | hlt
    ·simp [hx]
    ·have:=h4 j (by omega) hj2;rw[show j-i=j-(i+1)+1 by omega,dE];exact this
   ·have:=h5 ha;rw[show a-i=a-(i+1)+1 by omega,dE];exact this
  ·rw[if_neg hx];refine⟨i,rfl,Nat.le_refl _,by omega,fun j h1 h2=>by omega,fun _=> ?_⟩;simp [nH (hb x (by simp)) hx]
def nK (p:List Nat) (i from':Nat) (b:Bool) (W:Nat) (r:Nat × Nat):Prop:=
 (∀ j,from'≤j→j<r.1→p[j-i]? =some (cl b))∧(∀ j,r.1≤j→j<r.2→p[j-i]? =some (cl (!b)))∧(r.1<W→p[r.1-i]? =some (cl (!b)))∧(r.2<W→p[r.2-i]? =some (cl b))
theorem sM {p:List Nat} {i:Nat} {x:Nat} {r:List Nat} {from' W:Nat} {b:Bool} {q:Nat × Nat} (h:nK r (i+1) from' b W q) (hf:i+1≤from') (h1:i+1≤q.1) (h2:q.1≤q.2):nK (x::r) i from' b W q:=by
 obtain⟨a1,a2,a3,a4⟩:=h;refine⟨fun j hj1 hj2=> ?_,fun j hj1 hj2=> ?_,fun hh=> ?_,fun hh=> ?_⟩
 ·rw[show j-i=j-(i+1)+1 by omega,dE];exact a1 j hj1 hj2
 ·rw[show j-i=j-(i+1)+1 by omega,dE];exact a2 j hj1 hj2
 ·rw[show q.1-i=q.1-(i+1)+1 by omega,dE];exact a3 hh
 ·rw[show q.2-i=q.2-(i+1)+1 by omega,dE];exact a4 hh
theorem xB:∀ (p:List Nat) (b:Bool) (i:Nat) (at':Int),Bit p→at'<i→
  i≤(br (!b) at' (!b) (i+p.length) (bi (cl b) i p)).1∧(br (!b) at' (!b) (i+p.length) (bi (cl b) i p)).1≤(br (!b) at' (!b) (i+p.length) (bi (cl b) i p)).2∧
  nK p i i b (i+p.length) (br (!b) at' (!b) (i+p.length) (bi (cl b) i p)):=by
 intro p
 induction p with
 | nil=>intro b i at' _ h;refine⟨Nat.le_refl _,Nat.le_refl _,fun j h1 h2=> ?_,fun j h1 h2=> ?_,fun h=> ?_,fun h=> ?_⟩ <;> simp [br,bi] at* <;> omega
 | cons x r ih=>
  intro b i at' hb h;have hb2:Bit r:=fun y hy=>hb y (by simp [hy])
  have hW:i+(x::r).length=i+1+r.length:=by simp;omega
  rw[bi]
  by_cases hx:x=cl b
  ·rw[if_pos hx,hW];obtain⟨h1,h2,h3⟩:=ih b (i+1) at' hb2 (by omega);refine⟨by omega,h2,?_⟩;obtain⟨a1,a2,a3,a4⟩:=sM (p:=r) (x:=x) h3 (Nat.le_refl _) h1 h2;refine⟨fun j hj1 hj2=> ?_,a2,a3,a4⟩
   rcases oM hj1 with rfl | hlt
   ·simp [hx]
   ·exact a1 j hlt hj2
  ·have hc:=nH (hb x (by simp)) hx;rw[if_neg hx,br,if_pos ⟨h,rfl⟩,hW,hc];obtain⟨a,g1,g2,g3,g4,g5⟩:=Ej r (!b) (i+1) hb2;rw[g1];refine⟨Nat.le_refl _,by simp only;omega,fun j h1 h2=> ?_,fun j h1 h2=> ?_,fun _=> ?_,fun h2=> ?_⟩
   ·simp only at h2;omega
   ·simp only at h1 h2
    rcases oM h1 with rfl | hlt
    ·simp
    ·rw[show j-i=j-(i+1)+1 by omega,dE];exact g4 j (by omega) h2
   ·simp
   ·have:=g5 h2;simp only;rw[show a-i=a-(i+1)+1 by omega,dE,this,Bool.not_not]
theorem Ek:∀ (p:List Nat) (b d:Bool) (i a0:Nat),Bit p→i≤a0→p[a0-i]? =some (cl b)→
  a0<(br (!d) (a0:Int) (!b) (i+p.length) (bi (cl d) i p)).1∧(br (!d) (a0:Int) (!b) (i+p.length) (bi (cl d) i p)).1≤(br (!d) (a0:Int) (!b) (i+p.length) (bi (cl d) i p)).2∧
  nK p i a0 b (i+p.length) (br (!d) (a0:Int) (!b) (i+p.length) (bi (cl d) i p)):=by
 intro p
 induction p with
 | nil=>intro b d i a0 _ _ h;simp at h
 | cons x r ih=>
  intro b d i a0 hb hi h;have hb2:Bit r:=fun y hy=>hb y (by simp [hy])
  have hW:i+(x::r).length=i+1+r.length:=by simp;omega
  have key:∀ d',x=cl d'→br (!d) (a0:Int) (!b) (i+(x::r).length) (bi (cl d) i (x::r))=br (!d') (a0:Int) (!b) (i+1+r.length) (bi (cl d') (i+1) r):=by
   intro d' hd';rw[bi,hW]
   by_cases hx:x=cl d
   ·have:d'=d:=by
     rw[hx] at hd';cases d <;> cases d' <;> simp [cl] at hd' ⊢
    subst this;rw[if_pos hx]
   ·have hc:=nH (hb x (by simp)) hx;have:d'= !d:=by
     rw[hc] at hd';cases d <;> cases d' <;> simp [cl] at hd' ⊢
    subst this;rw[if_neg hx,br,if_neg (by rintro⟨h1,_⟩;omega),hc]
  obtain⟨d',hd'⟩:∃ d',x=cl d':=by
   have:=hb x (by simp)
   rcases(show x=0∨x=1 by omega) with rfl | rfl
   ·exact⟨false,rfl⟩
   ·exact⟨true,rfl⟩
  rw[key d' hd',hW]
  rcases oM hi with rfl | hlt
  ·have hxb:x=cl b:=by simpa using h
   have hdb:d'=b:=by
    rw[hxb] at hd';cases b <;> cases d' <;> simp [cl] at hd' ⊢
   subst hdb;obtain⟨h1,h2,h3⟩:=xB r d' (i+1) (i:Int) hb2 (by omega);refine⟨by omega,h2,?_⟩;obtain⟨a1,a2,a3,a4⟩:=sM (p:=r) (x:=x) h3 (Nat.le_refl _) h1 h2;refine⟨fun j hj1 hj2=> ?_,a2,a3,a4⟩
   rcases oM hj1 with rfl | hlt
   ·simp [hxb]
   ·exact a1 j hlt hj2
  ·rw[show a0-i=a0-(i+1)+1 by omega,dE] at h;obtain⟨h1,h2,h3⟩:=ih b d' (i+1) a0 hb2 (by omega) h;exact⟨h1,h2,sM (p:=r) h3 (by omega) (by omega) h2⟩
def nL (P:List Nat) (at':Int) (b:Bool):Prop:=(at'= -1∧b=false)∨∃ a:Nat,at'=a∧a≤P.length∧(a<P.length→P[a]? =some (cl b))
theorem El {P:List Nat} (hb:Bit P) {at':Int} {b:Bool} (h:nL P at' b) (hlt:at'<P.length):
  at'<((br true at' (!b) P.length (af P)).1:Int)∧(br true at' (!b) P.length (af P)).1≤(br true at' (!b) P.length (af P)).2∧nK P 0 (max at' 0).toNat b P.length (br true at' (!b) P.length (af P)):=by
 rcases h with ⟨rfl,rfl⟩ | ⟨a,rfl,h1,h2⟩
 ·have:=xB P false 0 (-1) hb (by decide);rw[bA] at this;obtain⟨g1,g2,g3⟩:=this;exact⟨by show(-1:Int)<_;omega,g2,g3⟩
 ·have:=Ek P b false 0 a hb (Nat.zero_le _) (h2 (by omega));rw[bA] at this;obtain⟨g1,g2,g3⟩:=this;refine⟨by show(a:Int)<_;exact Int.ofNat_lt.2 g1,g2,?_⟩;rw[show(max (a:Int) 0).toNat=a by omega];exact g3
theorem pV {P:List Nat} {n a c:Nat} (h1:n≤a) (h2:a≤P.length) (h:∀ j,n≤j→j<a→P[j]? =some c):P.take n++List.replicate (a-n) c=P.take a:=by
 apply gD;intro j
 by_cases hj:j<n
 ·rw[bK (by rw[aL];omega),fP,fP,if_pos hj,if_pos (by omega)]
 ·rw[ck (by rw[aL];omega),aL,j9 (by omega),dx,fP]
  by_cases hja:j<a
  ·rw[if_pos (by omega),if_pos hja,h j (by omega) hja]
  ·rw[if_neg (by omega),if_neg hja]
theorem pW {W:List (List Nat)} (pf:PF W) {i:Nat} {w r:List Nat} (hi:W[i]? =some w) (hw:w≠[]):aX W [] (w++r)=(w.length,.inl i):=wG pf hi w [] r rfl hw
theorem jx {t a b:List Nat} {p:Nat} (h:t.drop p=a++b):t.drop (p+a.length)=b:=by
 rw[← kP,h,lO]
theorem kr {W:List (List Nat)} {i:Nat} {w:List Nat} (h:W[i]? =some w):W.getD i []=w:=by
 rw[List.getD_eq_getElem?_getD,h];rfl
theorem Em (black:Bool) {t r:List Nat} (most:Int):∀ (m:Nat) (f p n:Nat),m≤1000000→(dt m).length≤f→t.drop p=fF (aM black) (dt m)++r→((n+m:Nat):Int)≤most→
  gJ (aM black) t most f p n=(p+(fF (aM black) (dt m)).length,.inl (n+m)):=by
 intro m
 induction m using Nat.strongRecOn with
 | ind m ih=>
  intro f p n hm hf ht hle
  by_cases hg:2560≤m
  ·rw[xg hg] at hf ht ⊢;rw[mi] at ht ⊢;obtain⟨v,hv,hvn⟩:=lh black (i:=103) (by omega);rw[kr hv,List.append_assoc] at ht;rw[kr hv];obtain⟨f,rfl⟩:∃ g,f=g+1:=⟨f-1,by simp at hf;omega⟩;rw[gJ,ht,pW (pL black) hv hvn];simp only;rw[show dm 103=2560 from rfl,if_neg (by omega),if_neg (by omega),ih (m-2560) (by omega) f (p+v.length) (n+2560) (by omega) (by simp at hf;omega) (jx ht) (by omega),ae,da,show n+2560+(m-2560)=n+m by omega]
  ·by_cases h64:64≤m
   ·rw[xh (by omega) h64] at hf ht ⊢;rw[mi] at ht ⊢;obtain⟨v,hv,hvn⟩:=lh black (i:=63+m/64) (by omega);rw[kr hv,List.append_assoc] at ht;rw[kr hv];obtain⟨f,rfl⟩:∃ g,f=g+1:=⟨f-1,by simp at hf;omega⟩;have hfl:dm (63+m/64)=64*(m/64):=by rw[dm,if_neg (by omega)];omega
    rw[gJ,ht,pW (pL black) hv hvn];simp only;rw[hfl,if_neg (by omega),if_neg (by omega),ih (m%64) (by omega) f (p+v.length) (n+64*(m/64)) (by omega) (by simp at hf;omega) (jx ht) (by omega),ae,da,show n+64*(m/64)+m%64=n+m by omega]
   ·rw[xi (by omega)] at hf ht ⊢;rw[mi] at ht ⊢;obtain⟨v,hv,hvn⟩:=lh black (i:=m) (by omega);have hk:fF (aM black) []=[]:=rfl;rw[kr hv,hk,cy] at ht ⊢;obtain⟨f,rfl⟩:∃ g,f=g+1:=⟨f-1,by simp at hf;omega⟩;have hfl:dm m=m:=by rw[dm,if_pos (by omega)]
    rw[gJ,ht,pW (pL black) hv hvn];simp only;rw[hfl,if_neg (by omega),if_pos (by omega)]
theorem sN (black:Bool):∀ K:List Nat,(∀ i∈K,i<104)→K.length≤(fF (aM black) K).length∧(fF (aM black) K).length≤13*K.length:=by
 intro K
 induction K with
 | nil=>intro _;simp [fF]
 | cons i K ih=>
  intro h;have h1:=ih fun j hj=>h j (by simp [hj])
  obtain⟨v,hv,hvn⟩:=lh black (i:=i) (h i (by simp));have hl:=mh black v (aI hv);rw[mi,kr hv,ae,aO];omega
theorem sO (black:Bool) {t r:List Nat} (most:Int) {m p:Nat} (hm:m≤1000000) (hp:p≤t.length) (ht:t.drop p=cK black m++r) (hle:(m:Int)≤most):
  fG black t most p=(p+(cK black m).length,.inl m):=by
 have hg:=(sN black (dt m) (fun i hi=>sD i hi)).1;have hl:=congrArg List.length ht;rw[a8,ae] at hl;have h2:(cK black m).length=(fF (aM black) (dt m)).length:=rfl;have:=Em black (t:=t) (r:=r) most m (t.length+1-p) p 0 hm (by omega) ht (by omega);rw[fG,this,bA];rfl
theorem mm (black:Bool) {n:Nat} (hn:n≤32768):(cK black n).length≤300:=by
 have h1:=(sN black (dt n) (fun i hi=>sD i hi)).2;have h3:(dt n).length≤20:=by
  rw[dt];simp only[ae,df,eI]
  split
  ·simp;omega
  ·simp;omega
 rw[cK];omega
theorem sP {t r:List Nat} {p i:Nat} (hi:i<9) (ht:t.drop p=aP.getD i []++r):iW t p=(p+(aP.getD i []).length,.inl ((i:Int)-3)):=by
 obtain⟨v,hv,hvn⟩:=sE (i:=i) (by omega);rw[kr hv] at ht ⊢;rw[iW,ht,pW wN hv hvn];simp only;rw[if_neg (by omega)]
theorem iz (p:List Nat):(af p).Pairwise (· < ·):=Eb p 0 0
def ks (b:Bool):List Nat→List Nat
 | []=>[]
 | n::r=>aT n b++ks (!b) r
theorem En:∀ (p:List Nat) (b:Bool) (was i:Nat),Bit p→was≤i→ks b (bg was (bi (cl b) i p) (i+p.length))=aT (i-was) b++p:=by
 intro p
 induction p with
 | nil=>intro b was i _ _;simp [bi,bg,ks]
 | cons x r ih=>
  intro b was i hb hw;have h1:i+(x::r).length=i+1+r.length:=by simp;omega
  rw[h1]
  by_cases hx:x=cl b
  ·rw[bi,if_pos hx,ih b was (i+1) (fun y hy=>hb y (by simp [hy])) (by omega),show i+1-was=i-was+1 by omega,aT,iO,hx,List.append_assoc];rfl
  ·have hc:=nH (hb x (by simp)) hx;rw[bi,if_neg hx,bg,ks,hc,ih (!b) i (i+1) (fun y hy=>hb y (by simp [hy])) (by omega),show i+1-i=1 by omega];rfl
theorem Eo (l:List Nat) (width:Nat):∀ (was:Nat),l.Pairwise (· < ·)→(∀ x∈l,was≤x∧x<width)→was≤width→(bg was l width).sum=width-was∧(∀ x∈(bg was l width).tail,0<x)∧bg was l width≠[]:=by
 induction l with
 | nil=>intro was _ _ _;simp [bg]
 | cons x r ih=>
  intro was hp hb hw;have hx:=hb x (by simp);obtain⟨hx2,hp2⟩:=dY.1 hp;obtain⟨h1,h2,h3⟩:=ih x hp2 (fun y hy=>⟨kO (hx2 y hy),(hb y (by simp [hy])).2⟩) (by omega);refine⟨by simp [bg,h1];omega,fun y hy=> ?_,by simp [bg]⟩;simp only[bg,List.tail_cons] at hy;cases r with
  | nil=>simp [bg] at hy;omega
  | cons z r=>
   rw[bg] at hy
   rcases List.mem_cons.1 hy with rfl | hy
   ·have:=hx2 z (by simp);omega
   ·exact h2 y (by rw[bg];exact hy)
theorem Ep {t:List Nat} {width:Nat} (hW:width≤32768):∀ (L:List Nat) (g p:Nat) (px:List Nat) (b:Bool) (r:List Nat),L≠[]→(∀ x∈L.tail,0<x)→px.length+L.sum=width→L.length≤g→p≤t.length→
  t.drop p=bE b L++r→jS t width g p px b=(p+(bE b L).length,.inl (px++ks b L)):=by
 intro L
 induction L with
 | nil=>intro g p px b r h;exact absurd rfl h
 | cons n L ih=>
  intro g p px b r _ hpos hsum hg hp ht;obtain⟨g,rfl⟩:∃ k,g=k+1:=⟨g-1,by simp at hg;omega⟩;rw[bE,List.append_assoc] at ht;have hs:px.length+(n+L.sum)=width:=by simpa using hsum
  have hR:=sO b (t:=t) ((width-px.length:Nat):Int) (m:=n) (p:=p) (by omega) hp ht (by omega);have hd:=jx ht;have hl:=congrArg List.length ht;rw[a8,ae] at hl;rw[jS,hR];simp only;cases L with
  | nil=>
   simp at hs;rw[if_pos hs];simp [bE,ks]
  | cons m L=>
   have hm:=hpos m (by simp);simp only[mZ] at hs;rw[if_neg (by omega),ih g (p+(cK b n).length) (px++aT n b) (!b) r (by simp) (fun x hx=>hpos x (by simp at hx ⊢;exact .inr hx)) (by simp;omega) (by simp at hg ⊢;omega) (by omega) hd];rw[show bE b (n::m::L)=cK b n++bE (!b) (m::L) from rfl,show ks b (n::m::L)=aT n b++ks (!b) (m::L) from rfl,ae,List.append_assoc,da]
theorem Er {t:List Nat} {width:Nat}:∀ (f p:Nat) (px:List Nat) (b:Bool) (r:Nat × (List Nat ⊕ Nat)),jS t width f p px b=r→p≤t.length→px.length≤width→Bit px→
  r.1≤t.length∧(∀ q,r.2= .inl q→q.length=width∧Bit q)∧∀ e,r.2= .inr e→e≠0∧e<100:=by
 intro f
 induction f with
 | zero=>intro p px b r h hp _ _;rw[jS] at h;subst h;exact⟨hp,fun q h=>by simp at h,fun e h=>by simp at h;omega⟩
 | succ f ih=>
  intro p px b r h hp hx hb;rw[jS] at h;cases hr:fG b t ((width-px.length:Nat):Int) p with
  | mk k y=>
   rw[hr] at h;cases y with
   | inr e=>
    have:=pT hr hp;subst h;exact⟨this.1,fun q h=>by simp at h,fun e h=>by simp at h;omega⟩
   | inl n=>
    have h1:=pS hr hp;simp only at h
    split at h
    ·rename_i hw;subst h;exact⟨h1.2.1,fun q h=>by simp at h;subst h;exact⟨by simp;exact hw,hb.append (jR _ _)⟩,fun e h=>by simp at h⟩
    ·exact ih _ _ _ _ h h1.2.1 (by simp;omega) (hb.append (jR _ _))
def gL:(List Nat ⊕ Nat)→List Nat
 | .inl px=>af px
 | .inr _=>[]
def gr:(List Nat ⊕ Nat)→Nat
 | .inl _=>0
 | .inr e=>e
def fV (t:List Nat) (width p:Nat):Nat × (List Nat ⊕ Nat):=jS t width (t.length+1-p) p [] false
theorem iY:Bit []:=fun x hx=>by cases hx
theorem mn (p:List Nat):(af p).length≤p.length:=xp p 0 0
theorem nM {row px:List Nat} {b:Bool} {width:Nat} (h:dQ row px b width):row.length≤px.length+1:=by
 have:=mn px;rw[dQ] at h;rw[h];split <;> simp <;> omega
theorem Es (w:World) (width:Int):Calls Tryz.prog 93 #[.int .i64 width] w fun e w'=>e= .returned (.bool (decide (1≤width∧width≤32768)))∧w'=w:=by
 by_cases h1:1≤width
 ·by_cases h2:width≤32768
  ·rw[decide_eq_true ⟨h1,h2⟩];go_enter Tryz.func93,Tryz.ntmps93;go_wp2_with fail;go_ret;exact⟨rfl,rfl⟩
  ·rw[decide_eq_false (by omega)];go_enter Tryz.func93,Tryz.ntmps93;go_wp2_with fail;go_ret;exact⟨rfl,rfl⟩
 ·rw[decide_eq_false (by omega)];go_enter Tryz.func93,Tryz.ntmps93;go_wp2_with fail;go_ret;exact⟨rfl,rfl⟩
theorem mp (w:World) {width:Nat} (h1:1≤width) (h2:width≤32768):Calls Tryz.prog 93 #[.int .i64 (width:Int)] w fun e w'=>e= .returned (.bool true)∧w'=w:=by
 have:=Es w (width:Int);rw[decide_eq_true (by omega)] at this;exact this
theorem sQ (l:List Nat) (width:Nat):∀ was,(∀ x∈l,x<width)→∀ y∈bg was l width,y≤width:=by
 induction l with
 | nil=>intro was _ y hy;simp [bg] at hy;omega
 | cons x r ih=>
  intro was h y hy;rw[bg] at hy
  rcases List.mem_cons.1 hy with rfl | hy
  ·have:=h x (by simp);omega
  ·exact ih x (fun z hz=>h z (by simp [hz])) y hy
theorem sR {w0 w:World} {F:SProp} {C Wb:Nat} {acc:List Nat} {low:Bool} (h:St w0 w (aA C*(aB Wb acc low*F))) {l:List Nat} {v:Value} {width:Nat} (hr:Stb w0 F (fun w=>Reads w 1 v l.length (l.map nv))) (hp:l.Pairwise (· < ·)) (hb:∀ x∈l,x<width) (h1:1≤width) (hw:width≤32768) (hl:l.length≤100000) (hm:acc.length≤900000000):
  Calls Tryz.prog 94 #[.pointer (some ⟨Wb,0,none⟩),.pointer (some ⟨C,0,none⟩),v,.int .i64 (width:Int)] w fun e w'=>e= .returned (.int .i64 0)∧St w0 w' (aA C*(aB Wb (acc++bE false (bg 0 l width)) low*F)):=by
 have HFT:=ac (fun w=>mp w h1 hw);have HLN:=ac (Ei h ((hr.more _).more _) hp hb hw (by omega));obtain⟨al,c,rfl⟩:=(hr w h.right.right).sub;have hle:=sQ l width 0 hb;have hll:=xA l width 0;generalize bg 0 l width=L at*
 have hLl:L.length≤100001:=by omega
 have HLE:=ac hle;clear hle hll hb hp hr;have H:=ac h;clear h;obtain⟨res,hres⟩:∃ res,res=acc++bE false L:=⟨_,rfl⟩;rw[← hres];have HRES:=ac hres;clear hres;go_enter Tryz.func94,Tryz.ntmps94;go_wp2_with fail;refine(HFT.out _).mono ?_;rintro e w2 ⟨rfl,rfl⟩;go_wp2_with fail;refine HLN.out.mono ?_;rintro e w3 ⟨v3,rfl,h3⟩;obtain⟨a3,c3,rfl⟩:=h3.reads.sub;have H3:=ac (h3.perm (show _=aA C*(aB Wb acc low*(own 3 1 (.slice a3 L.length c3) L.length (L.map nv)*F)) by ac_rfl));clear h3 HLN HFT H;go_wp2_with fail
 go_loopw [10,32] (fun ve vi wr=>∃ (k:Nat) (acc2:List Nat),k≤L.length∧ve= .int .i64 0∧vi= .int .i64 k∧acc2.length≤acc.length+300*k∧acc2++bE (decide (k%2=1)) (L.drop k)=res∧St w0 wr (aA C*(aB Wb acc2 low*(own 3 1 (.slice a3 L.length c3) L.length (L.map nv)*F)))) (fun _ vi _=>L.length-(intOf vi).toNat)
 case atStart=>exact⟨0,acc,by omega,rfl,rfl,by omega,HRES.out.symm,H3.out⟩
 case round=>
  clear H3 HRES;obtain⟨k,acc2,hk,rfl,rfl,hacc,hall,hst⟩:=hrel
  by_cases hkn:k<L.length
  ·obtain⟨g,o,rfl,e1⟩:=hst.right.right.reads.at_ hkn;have hx:=au hkn;rw[aC,hx] at e1;simp only[b7,nv] at e1;rw[dX hkn,bE,← List.append_assoc] at hall;have hxw:=HLE.out L[k] (cT _);have hpar:(!decide (k%2=1))=decide ((k+1)%2=1):=by
    rcases uC k with h | h
    ·rw[h,show(k+1)%2=1 by omega];rfl
    ·rw[h,show(k+1)%2=0 by omega];rfl
   rw[hpar] at hall;have hkl:(k:Int)<L.length:=by omega
   have hm2:(k:Int)%2=((k%2:Nat):Int):=by omega
   clear hx hpar;generalize L[k]=x at*
   have htl:∀ b,(cK b x).length≤300:=fun b=>mm b (by omega)
   have HTL:=ac htl;have HALL:=ac hall;have HACC:=ac hacc;clear htl hall
   rcases uC k with h2 | h2
   ·rw[h2] at HALL hm2;have HCW:=ac (pP hst x (by omega) false (by omega) (j:=(x:Int)) rfl);have HT2:=ac (HTL.out false);clear hst h2 hacc HTL;go_wp2_with fail;refine HCW.out.mono ?_;rintro e w5 ⟨rfl,h6⟩;have H6:=ac h6;clear h6 HCW;go_wp2_with fail;exact⟨⟨k+1,acc2++cK false x,by omega,rfl,by go_num,by have:=HT2.out;have:=HACC.out;rw[ae];omega,HALL.out,H6.out⟩,by simp [intOf];omega⟩
   ·rw[h2] at HALL hm2;have HCW:=ac (pP hst x (by omega) true (by omega) (j:=(x:Int)) rfl);have HT2:=ac (HTL.out true);clear hst h2 hacc HTL;go_wp2_with fail;refine HCW.out.mono ?_;rintro e w5 ⟨rfl,h6⟩;have H6:=ac h6;clear h6 HCW;go_wp2_with fail;exact⟨⟨k+1,acc2++cK true x,by omega,rfl,by go_num,by have:=HT2.out;have:=HACC.out;rw[ae];omega,HALL.out,H6.out⟩,by simp [intOf];omega⟩
  ·obtain rfl:k=L.length:=by omega
   rw[kL,bE,cy] at hall;subst hall;have hst2:=(hst.perm (show _=own 3 1 (.slice a3 L.length c3) L.length (L.map nv)*(aA C*(aB Wb acc2 low*F)) by ac_rfl)).right;have HST:=ac hst2;clear hst hst2 hacc;go_wp2_with fail;go_ret;exact⟨rfl,HST.out⟩
theorem sT {w0 w:World} {F:SProp} {C Rb:Nat} {bs:List UInt8} {p:Nat} {low:Bool} (h:St w0 w (aA C*(aq Rb bs p low*F))) {width:Nat} (h1:1≤width) (hw:width≤32768) (hl:bs.length≤100000000) (hp:p≤8*bs.length):
  Calls Tryz.prog 121 #[.pointer (some ⟨Rb,0,none⟩),.pointer (some ⟨C,0,none⟩),.int .i64 (width:Int)] w fun e w'=>∃ v,
   e= .returned (.tuple #[v,.int .i64 (gr (fV (ag low bs) width p).2:Nat)])∧St w0 w' (own 3 1 v (gL (fV (ag low bs) width p).2).length ((gL (fV (ag low bs) width p).2).map nv)*(aA C*(aq Rb bs (fV (ag low bs) width p).1 low*F))):=by
 have HFT:=ac (fun w=>mp w h1 hw);have hbl:(ag low bs).length=8*bs.length:=bM _ _;obtain⟨res,hres⟩:∃ res,fV (ag low bs) width p=res:=⟨_,rfl⟩;rw[hres];rw[fV,hbl] at hres;have HRES:=ac hres;clear hres;have HBL:=ac hbl;clear hbl;have H:=ac h;clear h;have T:=eM;go_enter Tryz.func121,Tryz.ntmps121;go_wp2_with fail;refine(HFT.out _).mono ?_;rintro e w2 ⟨rfl,rfl⟩;have h2:=H.out.lit #[] 3 0 rfl (by decide);have H2:=ac h2;clear h2 H;go_wp2_with fail
 go_loopg [8,9,10] (8*bs.length+1-p) (fun g vr va vb wr=>∃ (q:Nat) (px row:List Nat) (b:Bool) (ao:Option Addr) (co:Nat),vr= .slice ao row.length co∧va= .int .i64 (px.length:Nat)∧vb= .bool b∧8*bs.length+1≤g+q∧q≤8*bs.length∧px.length<width∧Bit px∧dQ row px b width∧row.length≤px.length+1∧jS (ag low bs) width g q px b=res∧St w0 wr (own 3 1 (.slice ao row.length co) row.length (row.map nv)*(aA C*(aq Rb bs q low*F))))
 case atStart=>exact⟨p,[],[],false,_,_,rfl,rfl,rfl,by omega,hp,by simp;omega,iY,xu _,by simp,HRES.out,H2.out⟩
 case round=>
  clear H2 HRES;obtain⟨q,px,row,b,ao,co,rfl,rfl,rfl,hg,hq,hpw,hbp,hrl,hrw,hres,hst⟩:=hrel;obtain⟨g,rfl⟩:∃ g,gk=g+1:=⟨gk-1,by omega⟩;rw[jS] at hres;have hsub:(width:Int)-(px.length:Nat)=((width-px.length:Nat):Int):=by omega
  have C1:=xk (hst.perm (show _=aA C*(aq Rb bs q low*(own 3 1 (.slice ao row.length co) row.length (row.map nv)*F)) by ac_rfl)) ((width-px.length:Nat):Int) b hl hq;obtain⟨d,hd⟩:∃ d,d=width-px.length:=⟨_,rfl⟩;rw[← hd] at hsub hres C1;have HD:=ac hd;clear hd;cases hr:fG b (ag low bs) (d:Int) q with
  | mk k y=>
   rw[hr] at hres C1;have HC1:=ac C1;clear C1 hst;cases y with
   | inr er=>
    have hok:=pT hr (by rw[HBL.out];exact hq);simp only at hres;subst hres;have HOK:=ac hok;clear hr hok hrl hbp hg hq;go_wp2_with fail;refine HC1.out.mono ?_;rintro e w3 ⟨z,x,p1,rfl,⟨hp1,hz,hx⟩,_,h3⟩;simp only at hp1 hz hx;subst hp1 hz hx;have hx0:¬ (x:Int)=0:=by have:=HOK.out.2.1;omega
    have h3:=h3.perm (show _=own 3 1 (.slice ao row.length co) row.length (row.map nv)*(aA C*(aq Rb bs p1 low*F)) by ac_rfl);have H3:=ac (St.own_nil 3 1 h3.right);clear h3 HC1;go_wp2_with fail;go_ret2;exact⟨_,rfl,H3.out⟩
   | inl n=>
    have hok:=pS hr (by rw[HBL.out];exact hq);rw[HBL.out] at hok;simp only at hres;clear hr;have hpn:px.length+n≤width:=by have:=HD.out;omega
    have hpi:(px.length:Int)+n=((px.length+n:Nat):Int):=by omega
    have hlen:(px++aT n b).length=px.length+n:=by simp
    have hst1:=sK (n:=n) hbp hrl hpn;have hb2:=hbp.append (jR n b);have hrl2:=nM hrl
    by_cases hw2:px.length+n=width
    ·rw[if_pos hw2] at hres;rw[if_neg (by omega)] at hst1;have hend:=sI hst1 (by rw[hlen];exact hw2);subst hres;have hpw2:(px.length:Int)+n=width:=by omega
     have HE:=ac hend;clear hrl hbp hst1 hb2 hlen hpi hw2 hg hend;go_wp2_with fail;refine HC1.out.mono ?_;rintro e w3 ⟨z,x,p1,rfl,⟨hp1,hz,hx⟩,_,h3⟩;simp only at hp1 hz hx;subst hp1 hz hx;have H3:=ac (h3.perm (show _=own 3 1 (.slice ao row.length co) row.length (row.map nv)*(aA C*(aq Rb bs p1 low*F)) by ac_rfl));clear h3 HC1;go_wp2_with fail;go_ret2;refine⟨_,rfl,?_⟩;have e:gL (Sum.inl (px++aT n b))=row:=HE.out.symm;rw[e];exact H3.out
    ·rw[if_neg hw2] at hres;rw[if_pos (by omega)] at hst1;have hpw2:¬ (px.length:Int)+n=width:=by omega
     have hpw3:(px++aT n b).length<width:=by rw[hlen];omega
     rw[← hlen] at hpi hst1;rw[hpi] at hpw2;have hrl3:=nM hst1;obtain⟨px2,hpx2⟩:∃ px2,px2=px++aT n b:=⟨_,rfl⟩;rw[← hpx2] at hpi hst1 hpw2 hpw3 hrl3 hb2 hres;have hrow:row.length≤100000:=by omega
     have HRL:=ac hst1;have HB2:=ac hb2;have HRES:=ac hres;have HG:=ac hg;have HRL3:=ac hrl3;have HOK:=ac hok;clear hrl hbp hst1 hb2 hlen hw2 hpx2 hres hg hrl3 hok hrl2 hrw;go_wp2_with fail;refine HC1.out.mono ?_;rintro e w3 ⟨z,x,p1,rfl,⟨hp1,hz,hx⟩,_,h3⟩;simp only at hp1 hz hx;subst hp1 hz hx;have h3:=h3.perm (show _=own 3 1 (.slice ao row.length co) row.length (row.map nv)*(aA C*(aq Rb bs p1 low*F)) by ac_rfl);have HT:=ac (xz h3 Stb.of_own px2.length (by omega));clear h3 HC1;go_wp2_with fail;refine HT.out.mono ?_;rintro e w4 ⟨v4,rfl,h4⟩;obtain⟨a4,c4,rfl⟩:=h4.reads.sub;have h4:=(h4.perm (ak _ _ _)).right;have H4:=ac h4;clear h4 HT;go_wp2_with fail
     go_roundg g
     case measure=>omega
     case rel=>exact⟨p1,px2,eo row px2.length, !b,a4,c4,rfl,rfl,rfl,by have:=HG.out;have:=HOK.out;omega,HOK.out.2.1,hpw3,HB2.out,HRL.out,HRL3.out,HRES.out,H4.out⟩
def gM (L:Nat) (v:Value) (at':Int) (b:Bool) (width:Nat):SProp:=blk L (.cells #[v,.int .i64 at',.bool b,.int .i64 (width:Int)] 225)
def kt (row:List Nat) (x width:Nat):List Nat:=if x<width then eo row x else row
theorem xC {w0 w:World} {F:SProp} {L:Nat} {v:Value} {at':Int} {b:Bool} {width:Nat} {row:List Nat} (h:St w0 w (gM L v at' b width*(own 3 1 v row.length (row.map nv)*F))) (x:Nat) (hl:row.length≤1000000):
  Calls Tryz.prog 165 #[.pointer (some ⟨L,0,none⟩),.int .i64 (x:Int)] w fun e w'=>e= .returned (.tuple #[])∧∃ v',St w0 w' (gM L v' (x:Int) b width*(own 3 1 v' (kt row x width).length ((kt row x width).map nv)*F)):=by
 have h:St w0 w (blk L (.cells #[v,.int .i64 at',.bool b,.int .i64 (width:Int)] 225)*(own 3 1 v row.length (row.map nv)*F)):=h;obtain⟨a,c,rfl⟩:=h.right.reads.sub
 by_cases hx:x<width
 ·have hxi:(x:Int)<width:=by omega
  have e:kt row x width=eo row x:=if_pos hx;rw[e];clear e hx;have HT:=ac (xz h (Stb.of_own.more _) x hl);have c0:=h.cell 0 rfl;have c3:=h.cell 3 rfl;have H:=ac h;clear h;go_enter Tryz.func165,Tryz.ntmps165;go_wp2_with (first | (go_at_call 162;refine HT.out.mono ?_;rintro e w2 ⟨v2,rfl,h2⟩;obtain⟨a2,c2,rfl⟩:=h2.reads.sub;have h3:=(h2.perm (show _=own 3 1 (.slice a row.length c) row.length (row.map nv)*(blk L (.cells #[.slice a row.length c,.int .i64 at',.bool b,.int .i64 (width:Int)] 225)*(own 3 1 (.slice a2 (eo row x).length c2) (eo row x).length ((eo row x).map nv)*F)) by ac_rfl)).right;clear h2;have f0:=h3.free 0;have f1:=h3.free 1;have d0:=h3.cell 0 rfl;have d1:=h3.cell 1 rfl;have H3:=ac h3;clear h3))
  go_end0
  exact⟨rfl,_,(H3.out.set 0 _).set 1 _⟩
 ·have hxi:¬ (x:Int)<width:=by omega
  have e:kt row x width=row:=if_neg hx;rw[e];clear e hx;have c3:=h.cell 3 rfl;have c1:=h.cell 1 rfl;have f1:=h.free 1;have H:=ac h;clear h;go_enter Tryz.func165,Tryz.ntmps165;go_wp2_with fail
  go_end0
  exact⟨rfl,_,H.out.set 1 _⟩
def jy (t:List Nat) (width:Nat):List Bool→Nat→List Nat→Nat × (List Nat ⊕ Nat)
 | [],k,px=>(k,.inl px)
 | b::r,k,px=>
  match fG b t ((width-px.length:Nat):Int) k with
  | (k1,.inr e)=>(k1,.inr e)
  | (k1,.inl n)=>jy t width r k1 (px++aT n b)
theorem sU (t:List Nat) (width k:Nat) (px:List Nat) (b:Bool):two t width k px b=jy t width [b, !b] k px:=by
 rw[two,jy];cases fG b t ((width-px.length:Nat):Int) k with
 | mk k1 y=>
  cases y with
  | inr e=>rfl
  | inl n=>
   simp only[jy,ae,sG]
   all_goals (rcases fG (!b) t ((width-(px.length+n):Nat):Int) k1 with ⟨k2,z⟩;cases z <;> rfl)
theorem xD {t:List Nat} {width:Nat}:∀ (l:List Bool) (k:Nat) (px:List Nat) (r:Nat × (List Nat ⊕ Nat)),jy t width l k px=r→k≤t.length→px.length≤width→Bit px→
  r.1≤t.length∧(∀ q,r.2= .inl q→k≤r.1∧px.length≤q.length∧q.length≤width∧Bit q)∧∀ e,r.2= .inr e→e≠0∧e<100:=by
 intro l
 induction l with
 | nil=>
  intro k px r h hk hp hb;rw[jy] at h;subst h;exact⟨hk,fun q h=>by cases h;exact⟨Nat.le_refl _,Nat.le_refl _,hp,hb⟩,fun e h=>by cases h⟩
 | cons b l ih=>
  intro k px r h hk hp hb;rw[jy] at h;cases hr:fG b t ((width-px.length:Nat):Int) k with
  | mk k1 y=>
   rw[hr] at h;cases y with
   | inr e=>
    have:=pT hr hk;subst h;exact⟨this.1,(fun q h=>by cases h),(fun e h=>by cases h;exact⟨this.2.1,this.2.2⟩)⟩
   | inl n=>
    have h1:=pS hr hk;have h2:=ih _ _ _ h h1.2.1 (by simp;omega) (hb.append (jR _ _));refine⟨h2.1,fun q h=> ?_,h2.2.2⟩;have:=h2.2.1 q h;simp at this;exact⟨by omega,by omega,this.2.2.1,this.2.2.2⟩
theorem Et {w0 w:World} {F:SProp} {L C Rb:Nat} {v:Value} {at':Int} {b:Bool} {width:Nat} {row px:List Nat} {bs:List UInt8} {p:Nat} {low:Bool} (h:St w0 w (gM L v at' b width*(own 3 1 v row.length (row.map nv)*(aA C*(aq Rb bs p low*F)))))
  (hat:max at' 0=px.length) (hpx:px.length≤width) (hw:width≤32768) (hb:Bit px) (hr:dQ row px b width) (hl:bs.length≤100000000) (hp:p≤8*bs.length):
  Calls Tryz.prog 164 #[.pointer (some ⟨L,0,none⟩),.pointer (some ⟨Rb,0,none⟩),.pointer (some ⟨C,0,none⟩)] w fun e w'=>e= .returned (.int .i64 (gr (two (ag low bs) width p px b).2:Nat))∧
   ∃ v' row' at2,St w0 w' (gM L v' at2 b width*(own 3 1 v' row'.length (row'.map nv)*(aA C*(aq Rb bs (two (ag low bs) width p px b).1 low*F))))∧∀ px2,(two (ag low bs) width p px b).2= .inl px2→dQ row' px2 b width∧at2=px2.length:=by
 have hbl:(ag low bs).length=8*bs.length:=bM _ _;obtain⟨res,hres⟩:∃ res,jy (ag low bs) width [b, !b] p px=res:=⟨_,rfl⟩;rw[sU,hres];have HRES:=ac hres;clear hres;have HBL:=ac hbl;clear hbl;have h:St w0 w (blk L (.cells #[v,.int .i64 at',.bool b,.int .i64 (width:Int)] 225)*(own 3 1 v row.length (row.map nv)*(aA C*(aq Rb bs p low*F)))):=h;have c1:=h.cell 1 rfl;have c2:=h.cell 2 rfl;have HAT:=ac hat;clear hat;have hl2:=h.lit #[.bool b,.bool (!b)] 4 2 rfl (by decide);have HL2:=ac hl2;have H:=ac h;clear h hl2;go_enter Tryz.func164,Tryz.ntmps164;go_upto_region 2 with (fail)
 go_region
 rw[HAT.out];have HRL:=ac hr;have HB:=ac hb;clear hr hb HAT;have hrow:=nM HRL.out;have HL3:=ac (show St w0 _ (own 4 1 (.slice (some ⟨w.heap.size,0,none⟩) 2 2) 2 [.bool b,.bool (!b)]*(gM L v at' b width*(own 3 1 v row.length (row.map nv)*(aA C*(aq Rb bs p low*F))))) from HL2.out.drew);clear HL2 H;generalize w.heap.size=gB at*
 go_wp2_with fail
 go_loopw [7,28] (fun va vi wr=>∃ (i:Nat) (px2 row2:List Nat) (v2:Value) (at2:Int) (k2:Nat),i≤2∧va= .int .i64 (px2.length:Nat)∧vi= .int .i64 i∧jy (ag low bs) width ([b, !b].drop i) k2 px2=res∧dQ row2 px2 ([b, !b].getD i b) width∧Bit px2∧px2.length≤width∧k2≤8*bs.length∧(i≠0→at2=px2.length)∧St w0 wr (own 4 1 (.slice (some ⟨gB,0,none⟩) 2 2) 2 [.bool b,.bool (!b)]*(gM L v2 at2 b width*(own 3 1 v2 row2.length (row2.map nv)*(aA C*(aq Rb bs k2 low*F)))))) (fun _ vi _=>2-(intOf vi).toNat)
 case atStart=>exact⟨0,px,row,v,at',p,by omega,rfl,rfl,HRES.out,HRL.out,HB.out,hpx,hp,by omega,HL3.out⟩
 case round=>
  clear HL3 HRES HRL HB c1 c2 hrow hpx hp;obtain⟨i,px2,row2,v2,at2,k2,hi,rfl,rfl,hall,hrl,hb2,hpx2,hk2,hat2,hst⟩:=hrel
  by_cases hi2:i<2
  ·obtain⟨cc,hcc⟩:∃ cc,[b, !b].drop i=cc::[b, !b].drop (i+1)∧[b, !b].getD i b=cc∧[b, !b].getD (i+1) b= !cc∧[Value.bool b,Value.bool (!b)][i]? =some (Value.bool cc):=by
    rcases Nat.lt_succ_iff_lt_or_eq.1 hi2 with h | h
    ·obtain rfl:i=0:=by omega
     exact⟨b,rfl,rfl,rfl,rfl⟩
    ·obtain rfl:i=1:=h;exact⟨!b,rfl,rfl,by cases b <;> rfl,rfl⟩
   obtain⟨e1,e2,e3,e4⟩:=hcc;rw[e1,jy] at hall;rw[e2] at hrl;have y0:wr.cell? ⟨gB,i,none⟩=some (.bool cc):=by
    rw[hst.own_cell e4]
   have hst2:=(hst.perm (ak _ _ _));have c3:wr.cell? ⟨L,3,none⟩=some (.int .i64 (width:Int)):=St.cell hst2 3 rfl;have hsub:(width:Int)-(px2.length:Nat)=((width-px2.length:Nat):Int):=by omega
   have C1:=xk (hst.perm (show _=aA C*(aq Rb bs k2 low*(own 4 1 (.slice (some ⟨gB,0,none⟩) 2 2) 2 [.bool b,.bool (!b)]*(gM L v2 at2 b width*(own 3 1 v2 row2.length (row2.map nv)*F)))) by ac_rfl)) ((width-px2.length:Nat):Int) cc hl hk2;clear hst hst2 e1 e2 e4;obtain⟨d,hd⟩:∃ d,d=width-px2.length:=⟨_,rfl⟩;rw[← hd] at hsub hall C1;have HD:=ac hd;clear hd;cases hr:fG cc (ag low bs) (d:Int) k2 with
   | mk k y=>
    rw[hr] at hall C1;have HC1:=ac C1;clear C1;cases y with
    | inr er=>
     have hok:=pT hr (by rw[HBL.out];exact hk2);simp only at hall;subst hall;have HOK:=ac hok;clear hr hok hrl hb2 hat2 e3;go_wp2_with fail;refine HC1.out.mono ?_;rintro e w3 ⟨z,x,p1,rfl,⟨hp1,hz,hx⟩,_,h3⟩;simp only at hp1 hz hx;subst hp1 hz hx;have hx0:¬ (x:Int)=0:=by have:=HOK.out.2.1;omega
     have h3:=(h3.perm (show _=own 4 1 (.slice (some ⟨gB,0,none⟩) 2 2) 2 [.bool b,.bool (!b)]*(gM L v2 at2 b width*(own 3 1 v2 row2.length (row2.map nv)*(aA C*(aq Rb bs p1 low*F)))) by ac_rfl)).right;have H3:=ac h3;clear h3 HC1;go_wp2_with fail;go_ret;exact⟨rfl,v2,row2,at2,H3.out⟩
    | inl n=>
     have hok:=pS hr (by rw[HBL.out];exact hk2);rw[HBL.out] at hok;simp only at hall;clear hr;have hpn:px2.length+n≤width:=by have:=HD.out;omega
     have hst1:dQ (kt row2 (px2.length+n) width) (px2++aT n cc) (!cc) width:=sK (n:=n) hb2 hrl hpn;rw[← e3] at hst1;have hb3:=hb2.append (jR n cc);have hrow:=nM hrl;have hlen:(px2++aT n cc).length=px2.length+n:=by simp
     have hr6:row2.length≤1000000:=by omega
     rw[← hlen] at hst1 hpn;have hpi:(px2.length:Int)+n=((px2++aT n cc).length:Nat):=by omega
     generalize px2++aT n cc=px3 at*
     have HH:=ac (⟨hall,hst1,hb3,hok,hpn⟩:_∧_∧_∧_∧_);clear hall hst1 hb3 hlen hrl hb2 e3 hat2 hok hrow;go_wp2_with fail;refine HC1.out.mono ?_;rintro e w3 ⟨z,x,p1,rfl,⟨hp1,hz,hx⟩,_,h3⟩;simp only at hp1 hz hx;subst hp1 hz hx;have HTO:=ac (xC (h3.perm (show _=gM L v2 at2 b width*(own 3 1 v2 row2.length (row2.map nv)*(own 4 1 (.slice (some ⟨gB,0,none⟩) 2 2) 2 [.bool b,.bool (!b)]*(aA C*(aq Rb bs p1 low*F)))) by ac_rfl)) px3.length hr6);clear h3 HC1;go_wp2_with fail;refine HTO.out.mono ?_;rintro e w4 ⟨rfl,v4,h4⟩;have H4:=ac h4;clear h4 HTO;go_wp2_with fail;obtain⟨g1,g2,g3,g5,g6⟩:=HH.out;exact⟨⟨i+1,px3,kt row2 px3.length width,v4,_,_,by omega,rfl,by go_num,g1,g2,g3,g6,g5.2.1,fun _=>rfl,H4.out.perm (by ac_rfl)⟩,by simp [intOf];omega⟩
  ·obtain rfl:i=2:=by omega
   have hst2:=hst.right;have hall:(k2,Sum.inl px2)=res:=hall;subst hall;have HST:=ac (⟨hst2,hrl,hat2 (by omega)⟩:_∧_∧_);clear hst hst2 hrl hat2 hb2;go_wp2_with fail;go_ret;obtain⟨s1,s2,rfl⟩:=HST.out;exact⟨rfl,v2,row2,s1,s2⟩
theorem mq (i:Nat):(aP.getD i []).length≤7:=by
 rw[List.getD_eq_getElem?_getD];cases hx:aP[i]? with
 | none=>simp
 | some v=>exact(pM v (aI hx)).2
theorem Eu {row top:List Nat} {width:Nat} (f:Nat) {at':Int} (b:Bool) (h:¬ at'<width):cL row top width f at' b=[]:=by
 cases f with
 | zero=>rfl
 | succ f=>rw[cL,if_neg h]
theorem Ev {w:World} {f1 f2:Nat} {A1 A2 A3:Array Value} {P1 P2 P3:World→Prop} {r:Value}
  (h1:Calls Tryz.prog f1 A1 w fun e w'=>e= .returned r∧P1 w')
  (h2:∀ w,P1 w→Calls Tryz.prog f2 A2 w fun e w'=>e= .returned r∧P2 w')
  (h3:∀ w,P2 w→Calls Tryz.prog f2 A3 w fun e w'=>e= .returned r∧P3 w'):
  Calls Tryz.prog f1 A1 w fun e w'=>e= .returned r∧Calls Tryz.prog f2 A2 w' fun e w'=>e= .returned r∧Calls Tryz.prog f2 A3 w' fun e w'=>e= .returned r∧P3 w':=by
 refine h1.mono ?_;rintro e w' ⟨rfl,h⟩;refine⟨rfl,(h2 _ h).mono ?_⟩;rintro e w' ⟨rfl,h⟩;exact⟨rfl,h3 _ h⟩
theorem xE {w0 w:World} {F:SProp} {C Wb:Nat} {acc:List Nat} {low:Bool} (h:St w0 w (aA C*(aB Wb acc low*F))) {row top:List Nat} {vr vt:Value} {width:Nat} (hr:Stb w0 F (fun w=>Reads w 1 vr row.length (row.map nv))) (ht:Stb w0 F (fun w=>Reads w 1 vt top.length (top.map nv)))
  (hrp:row.Pairwise (· < ·)) (hrb:∀ x∈row,x<width) (htp:top.Pairwise (· < ·)) (htb:∀ x∈top,x<width) (h1:1≤width) (hw:width≤32768) (hrl:row.length≤100000) (htl:top.length≤100000) (hm:acc.length≤900000000):
  Calls Tryz.prog 98 #[.pointer (some ⟨Wb,0,none⟩),.pointer (some ⟨C,0,none⟩),vr,vt,.int .i64 (width:Int)] w fun e w'=>e= .returned (.int .i64 0)∧St w0 w' (aA C*(aB Wb (acc++cL row top width (width+1) (-1) false) low*F)):=by
 have HFT:=ac (fun w=>mp w h1 hw);have hrg:∀ (l:List Nat),l.Pairwise (· < ·)→(∀ x∈l,x<width)→iX (-1) (width:Int) (l.map Int.ofNat)=true:=fun l h1 h2=>pU l _ _ (fun x hx=>⟨by omega,h2 x hx⟩) h1
 have HR1:=ac (fun(w:World) (hw:St w0 w F)=>(by
  have C:=nJ (l:=row.map Int.ofNat) (v:=vr) (width:Int) (w:=w) (by rw[nI,bS];exact hr w hw);rw[hrg row hrp hrb] at C;exact C:Calls Tryz.prog 126 #[vr,.int .i64 (width:Int)] w fun e w'=>e= .returned (.bool true)∧w'=w))
 have HR2:=ac (fun(w:World) (hw:St w0 w F)=>(by
  have C:=nJ (l:=top.map Int.ofNat) (v:=vt) (width:Int) (w:=w) (by rw[nI,bS];exact ht w hw);rw[hrg top htp htb] at C;exact C:Calls Tryz.prog 126 #[vt,.int .i64 (width:Int)] w fun e w'=>e= .returned (.bool true)∧w'=w))
 have HNR:=ac (fun(at':Int) (h:at'<width) (b:Bool)=>lk (at':=at') (toB:=b) (width:=width) row true hrp hrb h);have HNT:=ac (fun(at':Int) (h:at'<width) (b:Bool)=>lk (at':=at') (toB:=b) (width:=width) top true htp htb h);have HCR:=ac (fun(w:World) (hw:St w0 w F) (at':Int) (b:Bool)=>sL at' b width (hr w hw) (by omega));have HCT:=ac (fun(w:World) (hw:St w0 w F) (at':Int) (b:Bool)=>sL at' b width (ht w hw) (by omega));clear hrg hrp hrb htp htb hr ht;have H:=ac h;clear h;obtain⟨res,hres⟩:∃ res,acc++cL row top width (width+1) (-1) false=res:=⟨_,rfl⟩;rw[hres];have HRES:=ac hres;clear hres hrl htl;go_enter Tryz.func98,Tryz.ntmps98;go_wp2_with fail;refine(HFT.out _).mono ?_;rintro e w2 ⟨rfl,rfl⟩;go_wp2_with fail;refine(HR1.out _ H.out.right.right).mono ?_;rintro e w2 ⟨rfl,rfl⟩;go_wp2_with fail;refine(HR2.out _ H.out.right.right).mono ?_;rintro e w2 ⟨rfl,rfl⟩;clear HR1 HR2 HFT;go_wp2_with fail
 go_loopg [11,12] (width+1) (fun g vb va wr=>∃ (at':Int) (b:Bool) (acc2:List Nat),vb= .bool b∧va= .int .i64 at'∧ -1≤at'∧at'≤width∧(width:Int)≤g+at'∧acc2.length+700*g≤acc.length+700*(width+1)∧acc2++cL row top width g at' b=res∧St w0 wr (aA C*(aB Wb acc2 low*F)))
 case atStart=>exact⟨-1,false,acc,rfl,rfl,by omega,by omega,by omega,by omega,HRES.out,H.out⟩
 case round=>
  clear H HRES;obtain⟨at',b,acc2,rfl,rfl,ha1,ha2,hg,hacc,hall,hst⟩:=hrel
  by_cases hlt:at'<width
  ·obtain⟨g,rfl⟩:∃ g,gk=g+1:=⟨gk-1,by omega⟩;rw[cL,if_pos hlt] at hall;simp only at hall;have nr:=HNR.out at' hlt (!b);have nt:=HNT.out at' hlt (!b);have HC1:=ac (HCR.out _ hst.right.right at' (!b));have HC2:=ac (fun w hw=>HCT.out w hw at' (!b));generalize br true at' (!b) width row=a at*
   generalize br true at' (!b) width top=c at*
   obtain⟨a1,a2⟩:=a;obtain⟨c1,c2⟩:=c;simp only at hall nr nt HC1 HC2;obtain⟨nr1,nr2,nr3,_⟩:=nr;obtain⟨nt1,nt2,nt3,_⟩:=nt;have HALL:=ac hall;have HG:=ac hg;have HACC:=ac hacc;have hacl:acc2.length≤930000000:=by omega
   clear hall hg hacc;have HST:=ac hst;clear hst;go_wp2_with fail;refine HC1.out.mono ?_;rintro e w3 ⟨rfl,n3,rfl⟩;have h3:=HST.out.drewN n3;have HC3:=ac (HC2.out _ h3.right.right);have H3:=ac h3;clear h3 HC1 HC2 HST;generalize wr.drewN n3=W3 at*
   go_wp2_with fail;refine HC3.out.mono ?_;rintro e w4 ⟨rfl,n4,rfl⟩;have h4:=H3.out.drewN n4;have H4:=ac h4;clear h4 H3 HC3;generalize W3.drewN n4=W4 at*
   by_cases hp:c2<a1
   ·have hpi:(c2:Int)<a1:=by omega
    have hall:=HALL.out;rw[if_pos hp,← List.append_assoc] at hall;have HALL2:=ac hall;clear hall HALL;have HCW:=ac (sF H4.out 8 (by omega) (by omega) (j:=5) (by decide));have HML:=ac (mq 8);go_wp2_with fail;refine HCW.out.mono ?_;rintro e w5 ⟨rfl,h5⟩;have H5:=ac h5;clear h5 HCW H4;go_wp2_with fail
    go_roundg g
    case measure=>omega
    case rel=>exact⟨c2,b,acc2++aP.getD 8 [],rfl,rfl,by omega,by omega,by have:=HG.out;omega,by have:=HACC.out;have:=HML.out;rw[ae];omega,HALL2.out,H5.out⟩
   ·have hpi:¬ (c2:Int)<a1:=by omega
    have hall:=HALL.out;rw[if_neg hp] at hall;clear HALL
    by_cases hv:a1≤c1+3∧c1≤a1+3
    ·rw[if_pos hv,← List.append_assoc] at hall;have hv1:(-3:Int)≤(a1:Int)-c1:=by omega
     have hv2:(a1:Int)-c1≤3:=by omega
     have HALL2:=ac hall;clear hall;have HCW:=ac (sF H4.out (a1+3-c1) (by omega) (by omega) (j:=(a1:Int)-c1) (by omega));have HML:=ac (mq (a1+3-c1));clear hv;go_wp2_with fail;refine HCW.out.mono ?_;rintro e w5 ⟨rfl,h5⟩;have H5:=ac h5;clear h5 HCW H4;go_wp2_with fail
     go_roundg g
     case measure=>omega
     case rel=>exact⟨a1, !b,acc2++aP.getD (a1+3-c1) [],rfl,rfl,by omega,by omega,by have:=HG.out;omega,by have:=HACC.out;have:=HML.out;rw[ae];omega,HALL2.out,H5.out⟩
    ·rw[if_neg hv] at hall;have cZ:(-3:Int)≤(a1:Int)-c1∧¬ (a1:Int)-c1≤3∨¬ (-3:Int)≤(a1:Int)-c1:=by omega
     simp only[← List.append_assoc] at hall;obtain⟨q,hq⟩:∃ q:Nat,q=(max at' 0).toNat:=⟨_,rfl⟩;rw[← hq] at hall;have hmx:max at' 0=(q:Int):=by omega
     have hq1:(a1:Int)-(q:Nat)=((a1-q:Nat):Int):=by omega
     have hq2:(a2:Int)-a1=((a2-a1:Nat):Int):=by omega
     have hq3:a1-q≤32768:=by omega
     have hq4:a2-a1≤32768:=by omega
     have HML:=ac (mq 7);have HT1:=ac (mm b hq3);have HT2:=ac (mm (!b) hq4);have hl1:(acc2++aP.getD 7 []).length≤940000000:=by have:=HML.out;rw[ae];omega
     have hl2:(acc2++aP.getD 7 []++cK b (a1-q)).length≤940000000:=by have:=HML.out;have:=HT1.out;simp only[ae];omega
     have hl3:(acc2++aP.getD 7 []++cK b (a1-q)++cK (!b) (a2-a1)).length≤acc2.length+7+300+300:=by have:=HML.out;have:=HT1.out;have:=HT2.out;simp only[ae];omega
     have HCW:=ac (sF H4.out 7 (by omega) (by omega) (j:=4) (by decide));have HC5:=ac (fun w (h:St w0 w (aA C*(aB Wb (acc2++aP.getD 7 []) low*F)))=>pP h (a1-q) hq3 b (by omega) (j:=((a1-q:Nat):Int)) rfl);have HC6:=ac (fun w (h:St w0 w (aA C*(aB Wb (acc2++aP.getD 7 []++cK b (a1-q)) low*F)))=>pP h (a2-a1) hq4 (!b) (by omega) (j:=((a2-a1:Nat):Int)) rfl);have HP:=ac (Ev HCW.out HC5.out HC6.out);have HE:=ac (show(acc2++aP.getD 7 []++cK b (a1-q)++cK (!b) (a2-a1)).length≤acc2.length+7+300+300∧acc2++aP.getD 7 []++cK b (a1-q)++cK (!b) (a2-a1)++cL row top width g (↑a2) b=res∧acc2.length+700*(g+1)≤acc.length+700*(width+1)∧(width:Int)≤(a2:Int)+g∧a2≤width∧at'<a2 from⟨hl3,hall,HACC.out,by have:=HG.out;omega,by omega,by omega⟩);clear HML HT1 HT2 HCW HC5 HC6 HG HACC hl1 hl2 hl3 hall hq H4 HCR HCT HNR HNT hv hacl;generalize acc2++aP.getD 7 []++cK b (a1-q)++cK (!b) (a2-a1)=acc3 at*
     generalize a1-q=e1 at*
     generalize a2-a1=e2 at*
     have HQ:=ac (⟨hmx,hq1,hq2,hq3,hq4⟩:_∧_∧_∧_∧_);clear hmx hq1 hq2 hq3 hq4;have HB:=ac (⟨ha1,ha2,hlt,nr1,nr2,nr3⟩:_∧_∧_∧_∧_∧_);have hba:a1≤32768:=by omega
     have hbc:c1≤32768:=by omega
     clear ha1 ha2 nr1 nr2 nr3 nt1 nt2 nt3
     rcases cZ with ⟨hv1,hv2⟩ | hv1 <;> (
      clear hp
      go_upto_region 10 with (fail)
      clear hpi hv1 hlt hba hbc
      try clear hv2
      obtain⟨hmx,hq1,hq2,hq3,hq4⟩:=HQ.out
      go_wp2_with fail
      refine HP.out.mono ?_
      rintro e w5 ⟨rfl,HP5⟩
      have HP5:=ac HP5;clear HP
      go_wp2_with fail
      refine HP5.out.mono ?_
      rintro e w6 ⟨rfl,HP6⟩
      have HP6:=ac HP6;clear HP5
      go_wp2_with fail
      refine HP6.out.mono ?_
      rintro e w7 ⟨rfl,h7⟩
      have H7:=ac h7;clear h7 HP6
      go_wp2_with fail
      obtain⟨he1,he2,he3,he4,he5,he6⟩:=HE.out
      have hb:=HB.out
      go_roundg g
      case measure=>omega
      case rel=>exact⟨a2,b,acc3,rfl,rfl,by omega,by omega,by omega,by omega,he2,H7.out⟩)
  ·have hall':acc2=res:=by rw[← hall,Eu _ _ hlt,cy]
   subst hall';have HST:=ac hst;clear hst hacc hall;go_wp2_with fail;go_ret;exact⟨rfl,HST.out⟩
def gN (t top:List Nat) (width p:Nat):Nat × (List Nat ⊕ Nat):=jv t top width (t.length+1-p) p [] false (-1)
theorem xF {w0 w:World} {F:SProp} {C Rb:Nat} {bs:List UInt8} {p:Nat} {low:Bool} (h:St w0 w (aA C*(aq Rb bs p low*F))) {top:List Nat} {vt:Value} {width:Nat} (ht:Stb w0 F (fun w=>Reads w 1 vt top.length (top.map nv)))
  (htp:top.Pairwise (· < ·)) (htb:∀ x∈top,x<width) (h1:1≤width) (hw:width≤32768) (htl:top.length≤100000) (hl:bs.length≤100000000) (hp:p≤8*bs.length):
  Calls Tryz.prog 124 #[.pointer (some ⟨Rb,0,none⟩),.pointer (some ⟨C,0,none⟩),vt,.int .i64 (width:Int)] w fun e w'=>∃ v,
   e= .returned (.tuple #[v,.int .i64 (gr (gN (ag low bs) top width p).2:Nat)])∧St w0 w' (own 3 1 v (gL (gN (ag low bs) top width p).2).length ((gL (gN (ag low bs) top width p).2).map nv)*(aA C*(aq Rb bs (gN (ag low bs) top width p).1 low*F))):=by
 have HFT:=ac (fun w=>mp w h1 hw);have hrg:iX (-1) (width:Int) (top.map Int.ofNat)=true:=pU top _ _ (fun x hx=>⟨by omega,htb x hx⟩) htp;have HR2:=ac (fun(w:World) (hw:St w0 w F)=>(by
  have C:=nJ (l:=top.map Int.ofNat) (v:=vt) (width:Int) (w:=w) (by rw[nI,bS];exact ht w hw);rw[hrg] at C;exact C:Calls Tryz.prog 126 #[vt,.int .i64 (width:Int)] w fun e w'=>e= .returned (.bool true)∧w'=w))
 have HNT:=ac (fun(at':Int) (h:at'<width) (b:Bool)=>lk (at':=at') (toB:=b) (width:=width) top true htp htb h);have HCT:=ac (fun(w:World) (hw:St w0 w F) (at':Int) (b:Bool)=>sL at' b width (ht w hw) (by omega));have hbl:(ag low bs).length=8*bs.length:=bM _ _;obtain⟨res,hres⟩:∃ res,gN (ag low bs) top width p=res:=⟨_,rfl⟩;rw[hres];rw[gN,hbl] at hres;have HRES:=ac hres;clear hres;have HBL:=ac hbl;clear hbl hrg htp htb ht htl;have T:=eM;have H:=ac h;clear h;have hl2:=H.out.lit #[] 3 0 rfl (by decide);have HL2:=ac hl2;clear hl2;go_enter Tryz.func124,Tryz.ntmps124;go_wp2_with fail;refine(HFT.out _).mono ?_;rintro e w2 ⟨rfl,rfl⟩;go_wp2_with fail;refine(HR2.out _ H.out.right.right).mono ?_;rintro e w2 ⟨rfl,rfl⟩;clear HR2 HFT;go_wp2_with fail;have h3:St w0 _ (gM _ (.slice (some ⟨w2.heap.size,0,none⟩) ([]:List Nat).length 0) (-1) false width*(own 3 1 (.slice (some ⟨w2.heap.size,0,none⟩) ([]:List Nat).length 0) ([]:List Nat).length (([]:List Nat).map nv)*(aA C*(aq Rb bs p low*F)))):=HL2.out.alloc (.cells #[.slice (some ⟨w2.heap.size,0,none⟩) 0 0,.int .i64 (-1),.bool false,.int .i64 (width:Int)] 225);have hz:(w2.alloc (.cells #[] 3)).heap.size=w2.heap.size+1:=jK _;rw[hz] at h3;clear hz;generalize hLL:w2.heap.size+1=L at*
 have H3:=ac h3;clear h3 HL2 H hLL
 go_loopg [12] (8*bs.length+1-p) (fun g vl wr=>∃ (q:Nat) (px row:List Nat) (b:Bool) (v:Value) (at':Int),8*bs.length+1≤g+q∧q≤8*bs.length∧px.length≤width∧Bit px∧dQ row px b width∧lm px at'∧jv (ag low bs) top width g q px b at'=res∧St w0 wr (gM L v at' b width*(own 3 1 v row.length (row.map nv)*(aA C*(aq Rb bs q low*F)))))
 case atStart=>
  exact⟨p,[],[],false,_, -1,by omega,hp,by simp,iY,xu _,.inl ⟨rfl,rfl⟩,HRES.out,H3.out⟩
 case round=>
  clear H3 HRES;obtain⟨q,px,row,b,v,at',hg,hq,hpx,hbp,hrl,hat,hres,hst⟩:=hrel;obtain⟨g,rfl⟩:∃ g,gk=g+1:=⟨gk-1,by omega⟩;have c1:wr.cell? ⟨L,1,none⟩=some (.int .i64 at'):=St.cell hst 1 rfl;rw[jv] at hres
  by_cases hlt:at'<(width:Int)
  ·rw[if_pos hlt,mj] at hres;have C1:=D7 (hst.perm (show _=aA C*(aq Rb bs q low*(gM L v at' b width*(own 3 1 v row.length (row.map nv)*F))) by ac_rfl)) hl hq;have nt:=HNT.out at' hlt (!b);have HN:=ac (fun w hw=>HCT.out w hw at' (!b));clear HNT HCT;cases hr:iW (ag low bs) q with
   | mk k y=>
    rw[hr] at hres C1;have HC1:=ac C1;clear C1 hst;cases y with
    | inr er=>
     have hok:=xy hr (by rw[HBL.out];exact hq);simp only at hres;subst hres;have HOK:=ac hok;clear hr hok hrl hbp hg hq nt HN hat hpx;go_wp2_with fail;refine HC1.out.mono ?_;rintro e w3 ⟨z,x,p1,rfl,⟨hp1,hz,hx⟩,_,h3⟩;simp only at hp1 hz hx;subst hp1 hz hx;have hx0:¬ (x:Int)=0:=by have:=HOK.out.2.1;omega
     have h3:=(h3.perm (show _=gM L v at' b width*(own 3 1 v row.length (row.map nv)*(aA C*(aq Rb bs p1 low*F))) by ac_rfl)).right.right;have H3:=ac (St.own_nil 3 1 h3);clear h3 HC1;go_wp2_with fail;go_ret2;exact⟨_,rfl,H3.out⟩
    | inl m=>
     have hok:=xx hr (by rw[HBL.out];exact hq);rw[HBL.out] at hok;simp only at hres;clear hr;generalize br true at' (!b) width top=c at*
     obtain⟨b1,b2⟩:=c;simp only at hres nt HN;have HP:=ac (⟨hg,hq,hpx,hbp,hrl,hat,hres,nt,hok⟩:_∧_∧_∧_∧_∧_∧_∧_∧_);clear hg hq hpx hbp hrl hat hres nt hok;go_wp2_with fail;refine HC1.out.mono ?_;rintro e w3 ⟨z,x,p1,rfl,⟨hp1,hz,hx⟩,_,h3⟩;simp only at hp1 hz hx;subst hp1 hz hx;have h3:=h3.perm (show _=gM L v at' b width*(own 3 1 v row.length (row.map nv)*(aA C*(aq Rb bs p1 low*F))) by ac_rfl);have HN3:=ac (fun n=>HN.out (w3.drewN n) (h3.drewN n).right.right.right.right);have d1:w3.cell? ⟨L,1,none⟩=some (.int .i64 at'):=St.cell h3 1 rfl;have d2:w3.cell? ⟨L,2,none⟩=some (.bool b):=St.cell h3 2 rfl;have H3:=ac h3;clear h3 HN c1 HC1;go_upto_region 8 with (fail)
     go_quiet ((go_at_call 144;exact Calls.quiet_of (HN3.out _)));have h4:=H3.out.drewN nq;generalize w3.drewN nq=w4 at*
     clear H3 HN3 d1 d2;obtain⟨hg,hq,hpx,hbp,hrl,hat,hres,⟨nt1,nt2,nt3,nt4⟩,hok⟩:=HP.out;clear HP;have hmx:max at' 0=(px.length:Int):=by
      rcases hat with ⟨rfl,rfl⟩ | rfl
      ·rfl
      ·omega
     have hm1: -1≤at':=by rcases hat with ⟨rfl,rfl⟩ | rfl <;> omega
     have hrow:=nM hrl;clear hat
     by_cases h5:z=5
     ·subst h5;rw[if_pos rfl] at hres;simp only at hres;have hn:0<b2-px.length:=by omega
      have hpn:px.length+(b2-px.length)≤width:=by omega
      have hr2:=Ed hrl hn hpn;have hb2:=hbp.append (jR (b2-px.length) b);have hl2:(px++aT (b2-px.length) b).length=b2:=by rw[ae,sG];omega
      generalize px++aT (b2-px.length) b=px2 at*
      have HP:=ac (⟨by omega,by omega,by omega,hb2,hr2,.inr (by omega),hres⟩:8*bs.length+1≤g+p1∧p1≤8*bs.length∧px2.length≤width∧Bit px2∧dQ row px2 b width∧lm px2 (b2:Int)∧_);have f1:=St.free (b:=L) h4 1;have c1:w4.cell? ⟨L,1,none⟩=some (.int .i64 at'):=St.cell h4 1 rfl;have H4:=ac h4;clear h4 hg hq hpx hbp hrl hres nt1 nt2 nt3 nt4 hok hmx hm1 hrow hn hpn hr2 hb2 hl2;go_wp2_with fail
      go_roundg g
      case measure=>omega
      case rel=>
       obtain⟨e1,e2,e3,e4,e5,e6,e7⟩:=HP.out;exact⟨p1,px2,row,b,v,b2,e1,e2,e3,e4,e5,e6,e7,H4.out.set 1 _⟩
     ·rw[if_neg h5] at hres
      by_cases h4':z=4
      ·subst h4';rw[if_pos rfl] at hres;have C2:=Et h4 hmx hpx hw hbp hrl hl (by omega:p1≤8*bs.length);have htb:=fun r=>xD (t:=ag low bs) (width:=width) [b, !b] p1 px r
       cases hq2:two (ag low bs) width p1 px b with
       | mk k2 y2=>
        rw[hq2] at hres C2;have hbd:=htb _ ((sU ..).symm.trans hq2) (by rw[HBL.out];omega) hpx hbp;rw[HBL.out] at hbd;obtain⟨hbd1,hbd2,hbd3⟩:=hbd;have HC2:=ac C2;clear C2 h4 htb hq2;cases y2 with
        | inr er=>
         simp only at hres;subst hres;have hx:=(hbd3 er rfl).1;have hx0:¬ (er:Int)=0:=by omega
         clear hbd1 hbd2 hbd3 hx hg hq hpx hbp hrl nt1 nt2 nt3 nt4 hok hmx hm1 hrow h5;go_wp2_with fail;refine HC2.out.mono ?_;rintro e w5 ⟨rfl,v5,row5,at5,h5,_⟩;have h5:St w0 w5 (aA C*(aq Rb bs k2 low*F)):=h5.right.right;have H5:=ac (St.own_nil 3 1 h5);clear h5 HC2;simp only[gr];go_wp2_with fail;go_ret2;exact⟨_,rfl,H5.out⟩
        | inl px2=>
         simp only at hres;obtain⟨e1,e2,e3,e4⟩:=hbd2 px2 rfl;have HP:=ac (⟨by simp only at e1;omega,hbd1,e3,e4,.inr rfl,hres⟩:8*bs.length+1≤g+k2∧k2≤8*bs.length∧px2.length≤width∧Bit px2∧lm px2 (px2.length:Nat)∧_);clear hbd1 hbd2 hbd3 hg hq hpx hbp hrl nt1 nt2 nt3 nt4 hok hmx hm1 hrow h5 e1 e2 e3 e4 hres;go_wp2_with fail;refine HC2.out.mono ?_;rintro e w5 ⟨rfl,v5,row5,at5,h5,h6⟩;obtain⟨h7,rfl⟩:=h6 px2 rfl;have H5:=ac h5;clear h5 HC2;have H6:=ac h7;clear h7 h6;simp only[gr];go_wp2_with fail
         go_roundg g
         case measure=>omega
         case rel=>
          obtain⟨e1,e2,e3,e4,e5,e6⟩:=HP.out;exact⟨k2,px2,row5,b,v5,_,e1,e2,e3,e4,H6.out,e5,e6,H5.out⟩
      ·rw[if_neg h4'] at hres;have hz1: -3≤z:=hok.2.2.1;have hz2:z≤5:=hok.2.2.2;have c1:w4.cell? ⟨L,1,none⟩=some (.int .i64 at'):=St.cell h4 1 rfl
       by_cases hbad:(b1:Int)+z≤at'∨(b1:Int)+z<0∨(width:Int)<(b1:Int)+z
       ·rw[if_pos hbad] at hres;simp only at hres;subst hres;have H4:=ac (St.own_nil 3 1 (show St w0 w4 (aA C*(aq Rb bs p1 low*F)) from h4.right.right));have hb1:b1≤32768:=by omega
        clear h4 hg hq hpx hbp hrl hok hmx hm1 hrow;have hd:(b1:Int)+z≤at'∨(¬ (b1:Int)+z≤at'∧(b1:Int)+z<0)∨(¬ (b1:Int)+z≤at'∧¬ (b1:Int)+z<0∧(width:Int)<(b1:Int)+z):=by omega
        clear hbad;clear nt1 nt2 nt3 nt4
        rcases hd with hd | ⟨hd,he⟩ | ⟨hd,he,hf⟩ <;> (
         go_wp2_with fail
         go_ret2
         exact⟨_,rfl,H4.out⟩)
       ·rw[if_neg hbad] at hres;simp only at hres;obtain⟨X,hX⟩:∃ X:Nat,(b1:Int)+z=(X:Nat):=⟨((b1:Int)+z).toNat,by omega⟩;rw[hX] at hres hbad;rw[eT] at hres;have hst:=sK (n:=X-px.length) hbp hrl (by omega);have hb2:=hbp.append (jR (X-px.length) b);have hXp:px.length+(X-px.length)=X:=by omega
        rw[hXp] at hst;have hl2:(px++aT (X-px.length) b).length=X:=by rw[ae,sG];exact hXp
        generalize px++aT (X-px.length) b=px2 at*
        have HP:=ac (⟨by omega,by omega,by omega,hb2,hst,.inr (by omega),hres⟩:8*bs.length+1≤g+p1∧p1≤8*bs.length∧px2.length≤width∧Bit px2∧dQ (kt row X width) px2 (!b) width∧lm px2 (X:Int)∧_);have CT:=xC h4 X (by omega);have hx1:¬ (X:Int)≤at':=by omega
        have hx2:¬ (X:Int)<0:=by omega
        have hx3:¬ (width:Int)<(X:Int):=by omega
        have hb1:b1≤32768:=by omega
        have HCT:=ac CT;clear CT h4 hg hq hpx hbp hrl hok hmx hm1 hrow hbad hst hb2 hXp hl2 hres nt1 nt2 nt3 nt4;go_wp2_with fail;refine HCT.out.mono ?_;rintro e w5 ⟨rfl,v5,h5⟩;have f2:=St.free (b:=L) h5 2;have c2:w5.cell? ⟨L,2,none⟩=some (.bool b):=St.cell h5 2 rfl;have H5:=ac h5;clear h5 HCT;go_wp2_with fail
        go_roundg g
        case measure=>omega
        case rel=>
         obtain⟨e1,e2,e3,e4,e5,e6,e7⟩:=HP.out;exact⟨p1,px2,kt row X width, !b,v5,X,e1,e2,e3,e4,e5,e6,e7,H5.out.set 2 _⟩
  ·rw[if_neg hlt] at hres;subst hres;have hpw:px.length=width:=by
    rcases hat with ⟨rfl,rfl⟩ | rfl <;> omega
   have HE:=ac (sI hrl hpw);have c0:wr.cell? ⟨L,0,none⟩=some v:=St.cell hst 0 rfl;have H4:=ac hst.right;clear hst hrl hbp hat hg hq hpx hpw HNT HCT;obtain⟨av,cv,rfl⟩:=H4.out.reads.sub;go_wp2_with fail;go_ret2;refine⟨_,rfl,?_⟩;have e:gL (Sum.inl px)=row:=HE.out.symm;rw[e];exact H4.out
theorem Ew {t top:List Nat} {width:Nat} (htp:top.Pairwise (· < ·)) (htb:∀ x∈top,x<width) {p:Nat} {px:List Nat} {b:Bool} {at':Int} {r:Nat × ((List Nat × Bool × Int) ⊕ Nat)} (h:mj t top width p px b at'=r) (hp:p≤t.length) (hpx:px.length≤width) (hb:Bit px) (hat:lm px at') (hlt:at'<width):
  r.1≤t.length∧(∀ x,r.2= .inl x→x.1.length≤width∧Bit x.1∧lm x.1 x.2.2)∧∀ e,r.2= .inr e→e≠0∧e<100:=by
 subst h;rw[mj];have nt:=lk (at':=at') (toB:= !b) (width:=width) top true htp htb hlt;have hmx:max at' 0=(px.length:Int):=by
  rcases hat with ⟨rfl,rfl⟩ | rfl
  ·rfl
  ·omega
 generalize br true at' (!b) width top=c at*
 cases hr:iW t p with
 | mk k y=>
  cases y with
  | inr er=>
   have:=xy hr hp;exact⟨this.1,fun x h=>by simp at h,fun e h=>by simp at h;omega⟩
  | inl m=>
   have hk:=xx hr hp;simp only
   by_cases h5:m=5
   ·rw[if_pos h5];refine⟨hk.2.1,fun x h=> ?_,fun e h=>by simp at h⟩;simp only[Sum.inl.injEq] at h;subst h;exact⟨by simp;omega,hb.append (jR _ _),.inr (by simp;omega)⟩
   ·rw[if_neg h5]
    by_cases h4:m=4
    ·rw[if_pos h4];have h2:=xD (t:=t) (width:=width) [b, !b] k px _ rfl hk.2.1 hpx hb;rw[← sU] at h2;cases hq:two t width k px b with
     | mk k2 y2=>
      rw[hq] at h2;cases y2 with
      | inr e=>exact⟨h2.1,fun x h=>by simp at h,fun e' h=>by simp at h;subst h;exact h2.2.2 _ rfl⟩
      | inl px2=>
       refine⟨h2.1,fun x h=> ?_,fun e h=>by simp at h⟩;simp only[Sum.inl.injEq] at h;subst h;have:=h2.2.1 _ rfl;exact⟨this.2.2.1,this.2.2.2,.inr rfl⟩
    ·rw[if_neg h4]
     split
     ·exact⟨hk.2.1,fun x h=>by simp at h,fun e h=>by simp at h;omega⟩
     ·rename_i hb3;refine⟨hk.2.1,fun x h=> ?_,fun e h=>by simp at h⟩;simp only[Sum.inl.injEq] at h;subst h;exact⟨by simp;omega,hb.append (jR _ _),.inr (by simp;omega)⟩
theorem Ex {t top:List Nat} {width:Nat} (htp:top.Pairwise (· < ·)) (htb:∀ x∈top,x<width) (h1:1≤width):∀ (f p:Nat) (px:List Nat) (b:Bool) (at':Int) (r:Nat × (List Nat ⊕ Nat)),jv t top width f p px b at'=r→p≤t.length→px.length≤width→Bit px→lm px at'→
  r.1≤t.length∧(∀ q,r.2= .inl q→q.length=width∧Bit q)∧∀ e,r.2= .inr e→e≠0∧e<100:=by
 intro f
 induction f with
 | zero=>intro p px b at' r h hp _ _ _;rw[jv] at h;subst h;exact⟨hp,fun q h=>by simp at h,fun e h=>by simp at h;omega⟩
 | succ f ih=>
  intro p px b at' r h hp hpx hb hat;rw[jv] at h
  by_cases hlt:at'<(width:Int)
  ·rw[if_pos hlt] at h;cases hs:mj t top width p px b at' with
   | mk k y=>
    have hbd:=Ew htp htb hs hp hpx hb hat hlt;rw[hs] at h;cases y with
    | inr e=>simp only at h;subst h;exact⟨hbd.1,fun q h=>by simp at h,fun e' h=>by simp at h;subst h;exact hbd.2.2 _ rfl⟩
    | inl x=>
     have:=hbd.2.1 _ rfl;exact ih _ _ _ _ _ h hbd.1 this.1 this.2.1 this.2.2
  ·rw[if_neg hlt] at h;subst h;refine⟨hp,fun q h=> ?_,fun e h=>by simp at h⟩;simp only[Sum.inl.injEq] at h;subst h;exact⟨by rcases hat with ⟨rfl,rfl⟩ | rfl <;> omega,hb⟩
theorem xG {t top:List Nat} {width p:Nat} (htp:top.Pairwise (· < ·)) (htb:∀ x∈top,x<width) (h1:1≤width) (hp:p≤t.length):
  (gN t top width p).1≤t.length∧(∀ q,(gN t top width p).2= .inl q→q.length=width∧Bit q)∧∀ e,(gN t top width p).2= .inr e→e≠0∧e<100:=
 Ex htp htb h1 _ _ _ _ _ _ rfl hp (by simp) iY (.inl ⟨rfl,rfl⟩)
theorem xH {t:List Nat} {width p:Nat} (hp:p≤t.length):
  (fV t width p).1≤t.length∧(∀ q,(fV t width p).2= .inl q→q.length=width∧Bit q)∧∀ e,(fV t width p).2= .inr e→e≠0∧e<100:=
 Er _ _ _ _ _ rfl hp (by simp) iY
theorem Ey:∀ (L:List Nat) (b:Bool),(∀ x∈L,x≤32768)→(bE b L).length≤300*L.length:=by
 intro L
 induction L with
 | nil=>intro b _;simp [bE]
 | cons x r ih=>
  intro b h;have h1:=mm b (h x (by simp));have h2:=ih (!b) (fun y hy=>h y (by simp [hy]));rw[bE,ae,aO];omega
theorem sV {row top:List Nat} {width:Nat} (hr:row.Pairwise (· < ·)) (hrb:∀ x∈row,x<width) (ht:top.Pairwise (· < ·)) (htb:∀ x∈top,x<width) (hw:width≤32768):∀ (f:Nat) (at':Int) (b:Bool),(cL row top width f at' b).length≤700*f:=by
 intro f
 induction f with
 | zero=>intro at' b;simp [cL]
 | succ f ih=>
  intro at' b;rw[cL]
  by_cases hlt:at'<(width:Int)
  ·rw[if_pos hlt];simp only;have nr:=lk (at':=at') (toB:= !b) (width:=width) row true hr hrb hlt;generalize br true at' (!b) width row=a at*
   generalize br true at' (!b) width top=c at*
   split
   ·have:=mq 8;have:=ih (c.2:Int) b;rw[ae];omega
   ·split
    ·have:=mq (a.1+3-c.1);have:=ih (a.1:Int) (!b);rw[ae];omega
    ·have:=mq 7;have:=ih (a.2:Int) b;have:=mm b (show a.1-(max at' 0).toNat≤32768 by omega);have:=mm (!b) (show a.2-a.1≤32768 by omega);simp only[ae];omega
  ·rw[if_neg hlt];simp
def aQ:List (Value × List Nat)→SProp
 | []=>bw
 | x::r=>own 3 1 x.1 x.2.length (x.2.map nv)*aQ r
theorem mr (R:List (Value × List Nat)) (x:Value × List Nat):aQ (R++[x])=own 3 1 x.1 x.2.length (x.2.map nv)*aQ R:=by
 induction R with
 | nil=>rfl
 | cons y r ih=>rw[dV,aQ,ih,aQ];ac_rfl
theorem nN {w0 w:World}:∀ (R:List (Value × List Nat)) (F:SProp),St w0 w (aQ R*F)→∀ x∈R,Reads w 1 x.1 x.2.length (x.2.map nv):=by
 intro R
 induction R with
 | nil=>intro F _ x hx;cases hx
 | cons y r ih=>
  intro F h x hx;have h:St w0 w (own 3 1 y.1 y.2.length (y.2.map nv)*(aQ r*F)):=h.perm (by rw[aQ,aW])
  rcases List.mem_cons.1 hx with rfl | hx
  ·exact h.reads
  ·exact ih _ h.right x hx
theorem jz {w0 w:World} {F:SProp} (h:St w0 w F):St w0 w (aQ []*F):=h.perm (cV F).symm
theorem pX:ElemT Tryz.prog 78 79 1 24 (.slice none 0 0):=
 ⟨Tryz.underlying78,info_parts (by kernel_rfl),rfl,by decide⟩
def bJ (t:List Nat) (width:Nat):Nat→Nat→List (List Nat)→(List (List Nat) ⊕ Nat)
 | 0,_,acc=> .inl acc
 | n+1,p,acc=>
  match fV t width p with
  | (_,.inr e)=> .inr e
  | (k,.inl px)=>bJ t width n ((k+7)/8*8) (acc++[px])
def sW:(List (List Nat) ⊕ Nat)→List (List Nat)
 | .inl a=>a
 | .inr _=>[]
def sX:(List (List Nat) ⊕ Nat)→Nat
 | .inl _=>0
 | .inr e=>e
theorem nO (w:World) (v:Value):Reads (w.alloc (.cells #[v] 79)) 1 (.slice (some ⟨w.heap.size,0,none⟩) 1 1) 1 [v]:=
 (St.own_blk (e:=79) (size:=1) (n:=1) (cap:=1) (xs:=[v]) ((St.init w).alloc _) (Nat.le_refl _) (by decide) rfl rfl).reads
theorem Ez {w0 w:World} {F:SProp} (h:St w0 w F) (htab:dA w0 F) {bs:List UInt8} {vb:Value} (hb:Stb w0 F (fun w=>Reads w 1 vb bs.length (bs.map bv))) (hl:bs.length≤1000000) {width N:Nat} (h1:1≤width) (hw:width≤32768) (hN:N≤1000):
  Calls Tryz.prog 74 #[vb,.int .i64 (width:Int),.int .i64 (N:Int)] w fun e w'=>∃ (v:Value) (R:List (Value × List Nat)),
   e= .returned (.tuple #[v,.int .i64 (sX (bJ (ag false bs) width N 0 []):Nat)])∧R.map Prod.snd=(sW (bJ (ag false bs) width N 0 [])).map af∧St w0 w' (own 79 1 v R.length (R.map Prod.fst)*(aQ R*F)):=by
 have HFT:=ac (fun w=>mp w h1 hw);have HB:=ac hb;have HT:=ac htab;have hbl:(ag false bs).length=8*bs.length:=bM _ _;have HBL:=ac hbl;obtain⟨res,hres⟩:∃ res,bJ (ag false bs) width N 0 []=res:=⟨_,rfl⟩;rw[hres];have HRES:=ac hres;clear hres hbl htab;obtain⟨a0,c0,rfl⟩:=(hb w h).sub;have H:=ac h;clear h hb;have T:=pX;go_enter Tryz.func74,Tryz.ntmps74;go_wp2_with fail;refine(HFT.out _).mono ?_;rintro e w2 ⟨rfl,rfl⟩;go_wp2_with fail;refine(lV (low:=false) H.out HB.out (by omega)).mono ?_;rintro e w3 ⟨Rb,rfl,h3⟩;have H3:=ac h3;clear h3 H;go_wp2_with fail;refine(li H3.out (fun w h=>HT.out w h.right)).mono ?_;rintro e w4 ⟨C,rfl,h4⟩;have h5:=(jz h4).lit #[] 79 0 rfl (by decide);have H5:=ac (h5.perm (show _=own 79 1 (.slice (some ⟨w4.heap.size,0,none⟩) 0 0) 0 []*(aQ []*(aA C*(aq Rb bs 0 false*F))) from rfl));clear h4 h5 H3;go_wp2_with fail;generalize w4.heap.size=gR at*
 go_loopw [10,25] (fun vr vi wr=>∃ (k p:Nat) (acc:List (List Nat)) (R:List (Value × List Nat)) (ao:Option Addr) (co:Nat),k≤N∧vi= .int .i64 k∧vr= .slice ao R.length co∧p≤8*bs.length∧R.length=k∧R.map Prod.snd=acc.map af∧bJ (ag false bs) width (N-k) p acc=res∧St w0 wr (own 79 1 (.slice ao R.length co) R.length (R.map Prod.fst)*(aQ R*(aA C*(aq Rb bs p false*F))))) (fun _ vi _=>N-(intOf vi).toNat)
 case atStart=>exact⟨0,0,[],[],some ⟨gR,0,none⟩,0,by omega,rfl,rfl,by omega,rfl,rfl,HRES.out,H5.out⟩
 case round=>
  clear H5 HRES;obtain⟨k,p,acc,R,ao,co,hk,rfl,rfl,hp,hRk,hRm,hall,hst⟩:=hrel
  by_cases hkn:k<N
  ·have hkl:(k:Int)<N:=by omega
   obtain⟨m,hm⟩:∃ m,N-k=m+1:=⟨N-k-1,by omega⟩;rw[hm,bJ] at hall;have C1:=sT (hst.perm (show _=aA C*(aq Rb bs p false*(own 79 1 (.slice ao R.length co) R.length (R.map Prod.fst)*(aQ R*F))) by ac_rfl)) h1 hw (by omega) hp;have hbd:=xH (t:=ag false bs) (width:=width) (p:=p) (by rw[HBL.out];exact hp);have hm2:N-(k+1)=m:=by omega
   cases hr:fV (ag false bs) width p with
   | mk q y=>
    rw[hr] at hall C1 hbd;have HC1:=ac C1;clear C1 hst;rw[HBL.out] at hbd;obtain⟨hq,hb1,hb2⟩:=hbd;cases y with
    | inr er=>
     simp only at hall;have her:=hb2 er rfl;have hx0:¬ (er:Int)=0:=by omega
     have HRS:=ac hall;clear hall hr hb1 hb2 hRm hm hm2 hq hRk;go_wp2_with fail;refine HC1.out.mono ?_;rintro e w5 ⟨v5,rfl,h5⟩;obtain⟨a5,c5,rfl⟩:=h5.reads.sub;have H5:=ac (St.own_nil 79 1 (jz h5.right.right.right.right.right));clear h5 HC1;simp only[gr];go_wp2_with fail;go_ret2;rw[← HRS.out];exact⟨_,[],rfl,rfl,H5.out⟩
    | inl px=>
     simp only at hall;have HRS:=ac hall;have HRM:=ac hRm;have HRK:=ac hRk;have HM2:=ac hm2;have hRl:R.length≤1000:=by omega
     clear hall hr hb1 hb2 hRm hm hm2 hRk;go_wp2_with fail;refine HC1.out.mono ?_;rintro e w5 ⟨v5,rfl,h5⟩;obtain⟨a5,c5,rfl⟩:=h5.reads.sub;have h5:St w0 w5 (own 3 1 (.slice a5 (gL (Sum.inl px)).length c5) (af px).length ((af px).map nv)*(aA C*(aq Rb bs q false*(own 79 1 (.slice ao R.length co) R.length (R.map Prod.fst)*(aQ R*F))))):=h5;have HA:=ac (u6q (h5.perm (show _=aq Rb bs q false*(own 3 1 (.slice a5 (gL (Sum.inl px)).length c5) (af px).length ((af px).map nv)*(aA C*(own 79 1 (.slice ao R.length co) R.length (R.map Prod.fst)*(aQ R*F)))) by ac_rfl)));clear h5 HC1;simp only[gr];go_wp2_with fail;refine HA.out.mono ?_;rintro e w6 ⟨rfl,h6⟩;have h6:=h6.perm (show _=own 79 1 (.slice ao R.length co) R.length (R.map Prod.fst)*(own 3 1 (.slice a5 (gL (Sum.inl px)).length c5) (af px).length ((af px).map nv)*(aA C*(aq Rb bs ((q+7)/8*8) false*(aQ R*F)))) by ac_rfl);have H6:=ac h6;clear h6 HA;obtain⟨l5,hl5⟩:∃ l5,l5=(gL (Sum.inl px)).length:=⟨_,rfl⟩;rw[← hl5] at H6 ⊢;have HL5:=ac hl5;clear hl5;go_wp2_with (at_builtin;apply ap);refine on (aG T rfl _ _ rfl rfl (H6.out.drop_alloc (.cells #[.slice a5 l5 c5] 79)) rfl (nO w6 (.slice a5 l5 c5)) (by intro u hu;rw[List.mem_singleton.1 hu];rfl) (by unfold maxLen;omega) (by omega) ?_);intro v7 w7 h7 _;have h7:St w0 w7 (own 79 1 v7 (R++[(Value.slice a5 l5 c5,af px)]).length ((R++[(Value.slice a5 l5 c5,af px)]).map Prod.fst)*(aQ (R++[(Value.slice a5 l5 c5,af px)])*(aA C*(aq Rb bs ((q+7)/8*8) false*F)))):=by
      rw[mr,ae,List.map_append];exact h7.perm (by simp only[eI,cO,gC];ac_rfl)
     have hsn:(R++[(Value.slice a5 l5 c5,af px)]).length=R.length+1:=by simp
     have hsm:(R++[(Value.slice a5 l5 c5,af px)]).map Prod.snd=(acc++[px]).map af:=by rw[List.map_append,List.map_append,HRM.out];rfl
     generalize R++[(Value.slice a5 l5 c5,af px)]=R2 at*
     obtain⟨aN,cN,rfl⟩:=h7.reads.sub;have HH:=ac (⟨hsn,hsm⟩:_∧_);have H7:=ac h7;clear h7 hsn hsm H6;go_wp2_with fail;obtain⟨g1,g2⟩:=HH.out;have:=HRK.out;exact⟨⟨k+1,(q+7)/8*8,acc++[px],R2,aN,cN,by omega,by go_num,rfl,by omega,by omega,g2,by rw[HM2.out];exact HRS.out,H7.out⟩,by simp [intOf];omega⟩
  ·obtain rfl:k=N:=by omega
   rw[b8,bJ] at hall;have HRS:=ac hall;have HRM:=ac hRm;have HST:=ac (hst.perm (show _=aA C*(aq Rb bs p false*(own 79 1 (.slice ao R.length co) R.length (R.map Prod.fst)*(aQ R*F))) by ac_rfl)).right.right;clear hst hall hRm;go_wp2_with fail;go_ret2;rw[← HRS.out];exact⟨_,R,rfl,HRM.out,HST⟩
def encF (width:Nat):List (List Nat)→List Nat→List Nat
 | [],acc=>acc
 | l::r,acc=>encF width r (cJ (acc++bE false (bg 0 l width)))
def gX (width:Nat) (l:List Nat):Prop:=l.Pairwise (· < ·)∧(∀ x∈l,x<width)∧l.length≤400
theorem xI (l:List Nat):(cJ l).length≤l.length+7:=by
 rw[cJ,ae,df];omega
theorem sY {width:Nat} {l:List Nat} (h:gX width l) (hw:width≤32768):(bE false (bg 0 l width)).length≤300*401:=by
 have:=Ey (bg 0 l width) false (fun x hx=>by have:=sQ l width 0 h.2.1 x hx;omega);rw[xA] at this;have:=h.2.2;omega
theorem EA {w0 w:World} {F:SProp} (h:St w0 w F) (htab:dA w0 F) {R:List (Value × List Nat)} {v:Value} (hv:Stb w0 F (fun w=>Reads w 1 v R.length (R.map Prod.fst))) (hr:Stb w0 F (fun w=>∀ x∈R,Reads w 1 x.1 x.2.length (x.2.map nv))) {width:Nat} (h1:1≤width) (hw:width≤32768) (hR:∀ x∈R,gX width x.2) (hN:R.length≤1000):
  Calls Tryz.prog 44 #[v,.int .i64 (width:Int)] w fun e w'=>∃ v',e= .returned (.tuple #[v',.int .i64 0])∧St w0 w' (own 5 1 v' (((encF width (R.map Prod.snd) []).length+7)/8) ((az false (encF width (R.map Prod.snd) [])).map bv)*F):=by
 have HFT:=ac (fun w=>mp w h1 hw);obtain⟨a0,c0,rfl⟩:=(hv w h).sub;have HV:=ac hv;have HRR:=ac hr;have HRO:=ac hR;have HT:=ac htab;obtain⟨res,hres⟩:∃ res,encF width (R.map Prod.snd) []=res:=⟨_,rfl⟩;rw[hres];have HRES:=ac hres;clear hres htab hv hr hR;have H:=ac h;clear h;go_enter Tryz.func44,Tryz.ntmps44;go_wp2_with fail;refine(ld (low:=false) H.out).mono ?_;rintro e w3 ⟨Wb,rfl,h3⟩;have H3:=ac h3;clear h3 H;go_wp2_with fail;refine(li H3.out (fun w h=>HT.out w h.right)).mono ?_;rintro e w4 ⟨C,rfl,h4⟩;have H4:=ac h4;clear h4 H3;go_wp2_with fail;refine(HFT.out _).mono ?_;rintro e w2 ⟨rfl,rfl⟩;go_wp2_with fail
 go_loopw [18] (fun vi wr=>∃ (k:Nat) (acc:List Nat),k≤R.length∧vi= .int .i64 k∧acc.length≤130000*k∧encF width ((R.map Prod.snd).drop k) acc=res∧St w0 wr (aA C*(aB Wb acc false*F))) (fun vi _=>R.length-(intOf vi).toNat)
 case atStart=>exact⟨0,[],by omega,rfl,by simp,HRES.out,H4.out⟩
 case round=>
  clear H4 HRES;obtain⟨k,acc,hk,rfl,hal,hall,hst⟩:=hrel
  by_cases hkn:k<R.length
  ·have hkl:(k:Int)<R.length:=by omega
   obtain⟨g,o,rfl,e1⟩:=(HV.out wr hst.right.right).at_ hkn;have hx:=au hkn;rw[aC,hx] at e1;simp only[b7] at e1;have hmem:=cT hkn;have hd:(R.map Prod.snd).drop k=R[k].2::(R.map Prod.snd).drop (k+1):=by
    rw[dX (by simpa using hkn),kd]
   rw[hd,encF] at hall;have hro:=HRO.out _ hmem;have hrd:Stb w0 F (fun w=>Reads w 1 R[k].1 R[k].2.length (R[k].2.map nv)):=fun w h=>HRR.out w h _ hmem
   clear hx hd hmem;obtain⟨⟨xv,xl⟩,hxx⟩:∃ x,R[k]=x:=⟨_,rfl⟩;rw[hxx] at e1 hall hro hrd;simp only at e1 hall hro hrd;clear hxx;obtain⟨ax,cx,rfl⟩:=(hrd wr hst.right.right).sub;have hbl:=sY hro hw;have HW:=ac (sR hst hrd hro.1 hro.2.1 h1 hw (by have:=hro.2.2;omega) (by omega));have hal2:=xI (acc++bE false (bg 0 xl width));have hal3:(acc++bE false (bg 0 xl width)).length=acc.length+(bE false (bg 0 xl width)).length:=ae;have hal4:(acc++bE false (bg 0 xl width)).length≤130000000+130000:=by omega
   have hal5:(cJ (acc++bE false (bg 0 xl width))).length≤130000*(k+1):=by omega
   have HALL:=ac (⟨hall,hal5⟩:_∧_);clear hall hal2 hal3 hal5 hbl hro hrd hst;generalize acc++bE false (bg 0 xl width)=acc2 at*
   go_wp2_with fail;refine HW.out.mono ?_;rintro e w5 ⟨rfl,h5⟩;have HA:=ac (rX (h5.perm (ak _ _ _)) (by omega));clear h5 HW;go_wp2_with fail;refine HA.out.mono ?_;rintro e w6 ⟨rfl,h6⟩;have H6:=ac (h6.perm (ak _ _ _));clear h6 HA;go_wp2_with fail;exact⟨⟨k+1,cJ acc2,by omega,by go_num,HALL.out.2,HALL.out.1,H6.out⟩,by simp [intOf];omega⟩
  ·obtain rfl:k=R.length:=by omega
   rw[lM (by simp),encF] at hall;have HRS:=ac hall;have HBY:=ac (it (hst.perm (ak _ _ _)));clear hst hall;go_wp2_with fail;refine HBY.out.mono ?_;rintro e w5 ⟨v5,rfl,h5⟩;obtain⟨a5,c5,rfl⟩:=h5.reads.sub;have H5:=ac (h5.perm (show _=aB Wb acc false*(aA C*(own 5 1 (.slice a5 ((acc.length+7)/8) c5) ((acc.length+7)/8) ((az false acc).map bv)*F)) by ac_rfl)).right.right;clear h5 HBY;go_wp2_with fail;go_ret2;rw[← HRS.out];exact⟨_,rfl,H5⟩
end Go.Proofs.YtboflbdniogcdaaGreatDoor
