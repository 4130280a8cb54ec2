/-
  Parts of a proof.
-/
import Derived.Test.YtboflbdniogcdaaGreatDoorK29
import Derived.Test.YtboflbdniogcdaaGreatDoorK23
set_option linter.unusedVariables false
set_option linter.unusedSimpArgs false
set_option maxRecDepth 100000
set_option maxHeartbeats 100000000
namespace Go.Proofs.YtboflbdniogcdaaGreatDoor
open Go.RowKit Go.Mz
theorem DD (black:Bool) (i:Nat):((aI black).getD i []).length≤13:=by
 rw[List.getD_eq_getElem?_getD];cases e:(aI black)[i]? with
 | none=>simp
 | some w=>exact(kG black w (aG e)).2
theorem DE (black:Bool) (K:List Nat):Bit (fC (aI black) K):=Dz (mL black) K
theorem rF (black:Bool) (n:Nat):Bit (aM black n):=DE black _
theorem rG {w0 w:World} {F:SProp} (h:St w0 w F) (n:Nat) (hn:n≤32768) (black:Bool) {j:Int} (hj:j=n):
  Calls Tryz.prog 105 #[.int .i64 j,.bool black] w fun e w'=>e= .returned (.string ⟨(tx (aM black n)).toArray⟩)∧St w0 w' F:=by
 subst hj;have HW:=ac (Dr h black);clear h;have HLE:=ac (DD black);have HTL:=ac (show aM black n=[]++fC (aI black) (eN n) from rfl);generalize hRES:aM black n=RES at*
 have hfl:=jE black;generalize aI black=W at*
 clear hRES;go_enter Tryz.func105,Tryz.ntmps105;go_wp2_with fail;refine HW.out.mono ?_;rintro e w2 ⟨v2,rfl,h2⟩;obtain⟨a2,c2,rfl⟩:=h2.reads.sub;obtain⟨g2,rfl⟩:=bR h2 (by omega);have hcell:∀ i,i<104→w2.cell? ⟨g2,i,none⟩=some (.string ⟨(tx (W.getD i [])).toArray⟩):=fun i hi=>h2.own_cell (by
  rw[au,List.getD_eq_getElem?_getD,ai (by omega)];rfl)
 have HCELL:=ac hcell;clear hcell;have H2:=ac h2.right;clear h2 HW;go_wp2_with fail
 go_loop [0,6] (fun vn vs=>∃ (m:Nat) (l:List Nat),vn= .int .i64 m∧m≤32768∧vs= .string ⟨(tx l).toArray⟩∧l.length+13*(m/2560)≤13*(n/2560)∧l++fC W (eN m)=RES) (fun vn _=>(intOf vn).toNat)
 case atStart=>exact⟨n,[],rfl,hn,rfl,by simp,HTL.out.symm⟩
 case round=>
  clear HTL;obtain⟨m,l,rfl,hm9,rfl,hl,hres⟩:=hrel;have hl9:l.length≤500:=by omega
  have hlx:(tx l).length=l.length:=by simp
  by_cases hg:2560≤m
  ·have hg':(2560:Int)≤m:=by omega
   rw[vN hg,kJ,← List.append_assoc] at hres;have c103:=HCELL.out 103 (by omega);have hle:=HLE.out 103;generalize W.getD 103 []=v at*
   have hlv:(tx v).length=v.length:=by simp
   have hs:(m:Int)-2560=((m-2560:Nat):Int):=by omega
   have HR:=ac hres;clear hres;go_wp2_with fail;refine⟨⟨m-2560,l++v,by first | rfl | go_num,by omega,?_,by rw[ae];omega,HR.out⟩,by simp [intOf];omega⟩;rw[cZ];exact congrArg Value.string (ByteArray.mk_append_mk _ _)
  ·have hg':¬ (2560:Int)≤m:=by omega
   by_cases h64:64≤m
   ·have h64':(64:Int)≤m:=by omega
    rw[vO (by omega) h64,kJ,rD (by omega),kJ,← List.append_assoc,← List.append_assoc] at hres;obtain⟨i,hi⟩:∃ i,i=63+m/64:=⟨_,rfl⟩;obtain⟨kq,hkq⟩:∃ kq,kq=m/64:=⟨_,rfl⟩;obtain⟨m2,hm2⟩:∃ m2,m2=m%64:=⟨_,rfl⟩;rw[← hi,← hm2] at hres;have hq:(m:Int)/64=(kq:Int):=by omega
    have hii:(63:Int)+(kq:Int)=(i:Int):=by omega
    have hr:(m:Int)%64=(m2:Int):=by omega
    have hb1:kq≤39:=by omega
    have hb3:m2<64:=by omega
    have hb5:i<104:=by omega
    have ci:=HCELL.out i hb5;have cm:=HCELL.out m2 (by omega);have hle1:=HLE.out i;have hle2:=HLE.out m2;generalize W.getD i []=v at*
    generalize W.getD m2 []=u at*
    have hlv:(tx v).length=v.length:=by simp
    have hlu:(tx u).length=u.length:=by simp
    have hlvu:(tx (l++v)).length=l.length+v.length:=by simp
    have hb6:(i:Int)<104:=by omega
    have hb7:(m2:Int)<104:=by omega
    have hbi:0≤(i:Int):=by omega
    have HR:=ac (show RES=l++v++u by rw[← hres];simp [fC]);clear hres hi hkq hm2;go_wp2_with fail;go_ret;refine⟨?_,H2.out⟩;rw[HR.out,cZ,cZ];exact congrArg (fun x=>Ending.returned (Value.string x)) (by simp only[ByteArray.mk_append_mk])
   ·have h64':¬ (64:Int)≤m:=by omega
    rw[rD (by omega),kJ] at hres;have cm:=HCELL.out m (by omega);have hle2:=HLE.out m;generalize W.getD m []=u at*
    have hlu:(tx u).length=u.length:=by simp
    have hb7:(m:Int)<104:=by omega
    have HR:=ac (show RES=l++u by rw[← hres];simp [fC]);clear hres;go_wp2_with fail;go_ret;refine⟨?_,H2.out⟩;rw[HR.out,cZ];exact congrArg (fun x=>Ending.returned (Value.string x)) (by simp only[ByteArray.mk_append_mk])
def cl (b:Bool):Nat:=cond b 1 0
theorem DF {b:Bool} {x:Nat} (hx:x≤1) (h:x≠cl b):x=cl (!b):=by
 cases b <;> simp [cl] at* <;> omega
theorem vR (b:Bool):cl b≤1:=by cases b <;> decide
def cc (c i:Nat):List Nat→List Nat
 | []=>[]
 | x::r=>if x=c then cc c (i+1) r else i::cc x (i+1) r
def ay (p:List Nat):List Nat:=cc 0 0 p
def gR (c:Nat) (p:List Nat):Nat:=p.getLastD c
def fP (n:Nat) (b:Bool):List Nat:=List.replicate n (cl b)
theorem DG (n:Nat) (b:Bool):Bit (fP n b):=fun x hx=>by
 rw[JO hx];exact vR b
@[simp] theorem J9 (n:Nat) (b:Bool):(fP n b).length=n:=by simp [fP]
theorem DH (q:List Nat):∀ (p:List Nat) (c i:Nat),cc c i (p++q)=cc c i p++cc (gR c p) (i+p.length) q:=by
 intro p
 induction p with
 | nil=>intro c i;simp [cc,gR]
 | cons x r ih=>
  intro c i;have hl:gR c (x::r)=gR x r:=List.getLastD_cons ..;have h1:i+(x::r).length=i+1+r.length:=by simp;omega
  by_cases hx:x=c
  ·subst hx;rw[dB,cc,if_pos rfl,cc,if_pos rfl,ih,hl,h1]
  ·rw[dB,cc,if_neg hx,cc,if_neg hx,ih,hl,h1,dB]
theorem DI (c:Nat):∀ (n i:Nat),cc c i (List.replicate n c)=[]:=by
 intro n
 induction n with
 | zero=>intro i;rfl
 | succ n ih=>intro i;rw[jr,cc,if_pos rfl,ih]
theorem vS:∀ (p:List Nat) (c i:Nat),∀ x∈cc c i p,i≤x∧x<i+p.length:=by
 intro p
 induction p with
 | nil=>intro c i x hx;cases hx
 | cons y r ih=>
  intro c i x hx;rw[cc] at hx
  split at hx
  ·have:=ih _ _ x hx;simp;omega
  ·rcases List.mem_cons.1 hx with rfl | hx
   ·simp
   ·have:=ih _ _ x hx;simp;omega
theorem DJ:∀ (p:List Nat) (c i:Nat),(cc c i p).Pairwise (· < ·):=by
 intro p
 induction p with
 | nil=>intro c i;exact List.Pairwise.nil
 | cons y r ih=>
  intro c i;rw[cc]
  split
  ·exact ih _ _
  ·refine List.Pairwise.cons (fun x hx=> ?_) (ih _ _);have:=vS _ _ _ x hx;omega
theorem DK:∀ (p:List Nat) (c i:Nat),(cc c i p).length≤p.length:=by
 intro p
 induction p with
 | nil=>intro c i;exact Nat.le_refl _
 | cons y r ih=>
  intro c i;rw[cc]
  split
  ·have:=ih c (i+1);simp;omega
  ·have:=ih y (i+1);simp;omega
theorem mO (p:List Nat):∀ x∈ay p,x<p.length:=fun x hx=>by
 have:=vS p 0 0 x hx;omega
theorem DM {p:List Nat} (h:Bit p):gR 0 p≤1:=by
 rw[gR,List.getLastD_eq_getLast?];cases hq:p.getLast? with
 | none=>simp
 | some x=>exact h x (List.mem_of_getLast? hq)
def cU (par:Bool) (at':Int) (toB:Bool) (width:Nat):List Nat→Nat × Nat
 | []=>(width,width)
 | x::r=>if at'<(x:Int)∧par=toB then(x,r.headD width) else cU (!par) at' toB width r
theorem mP {at':Int} {toB:Bool} {width:Nat}:∀ (l:List Nat) (par:Bool),l.Pairwise (· < ·)→(∀ x∈l,x<width)→at'<width→
  at'<((cU par at' toB width l).1:Int)∧(cU par at' toB width l).1≤(cU par at' toB width l).2∧(cU par at' toB width l).2≤width∧((cU par at' toB width l).1<width→(cU par at' toB width l).1<(cU par at' toB width l).2):=by
 intro l
 induction l with
 | nil=>intro par _ _ h;exact⟨h,Nat.le_refl _,Nat.le_refl _,fun h=>absurd h (Nat.lt_irrefl _)⟩
 | cons x r ih=>
  intro par hp hb h;rw[cU]
  split
  ·rename_i hx;have hxw:=hb x (by simp);cases r with
   | nil=>simp;omega
   | cons y r=>
    have h1:=(ed.1 hp).1 y (by simp);have h2:=hb y (by simp);simp;omega
  ·exact ih _ (ed.1 hp).2 (fun y hy=>hb y (by simp [hy])) h
def bY (was:Nat) (l:List Nat) (width:Nat):List Nat:=match l with
 | []=>[width-was]
 | x::r=>(x-was)::bY x r width
def cE (b:Bool):List Nat→List Nat
 | []=>[]
 | n::r=>aM b n++cE (!b) r
def iL (b:Bool) (n:Nat):List Nat→List Nat
 | []=>aM b n
 | x::r=>if x=cl b then iL b (n+1) r else aM b n++iL (!b) 1 r
theorem DO:∀ (p:List Nat) (b:Bool) (was i:Nat),Bit p→was≤i→iL b (i-was) p=cE b (bY was (cc (cl b) i p) (i+p.length)):=by
 intro p
 induction p with
 | nil=>intro b was i _ _;simp [iL,cc,bY,cE]
 | cons x r ih=>
  intro b was i hb hw;have h1:i+(x::r).length=i+1+r.length:=by simp;omega
  rw[iL,h1]
  by_cases hx:x=cl b
  ·rw[if_pos hx,cc,if_pos hx,← ih b was (i+1) (fun y hy=>hb y (by simp [hy])) (by omega),show i-was+1=i+1-was by omega]
  ·have hc:=DF (hb x (by simp)) hx;rw[if_neg hx,cc,if_neg hx,bY,cE,hc,← ih (!b) i (i+1) (fun y hy=>hb y (by simp [hy])) (by omega),show i+1-i=1 by omega]
theorem rH {p:List Nat} (h:Bit p):iL false 0 p=cE false (bY 0 (ay p) p.length):=by
 have:=DO p false 0 0 h (Nat.le_refl _);simpa [ay,cl] using this
def db (row top:List Nat) (width:Nat):Nat→Int→Bool→List Nat
 | 0,_,_=>[]
 | f+1,at',b=>
  if at'<width then
   let a:=cU true at' (!b) width row
   let c:=cU true at' (!b) width top
   if c.2<a.1 then aL.getD 8 []++db row top width f c.2 b
   else if a.1≤c.1+3∧c.1≤a.1+3 then aL.getD (a.1+3-c.1) []++db row top width f a.1 (!b)
   else aL.getD 7 []++(aM b (a.1-(max at' 0).toNat)++(aM (!b) (a.2-a.1)++db row top width f a.2 b))
  else []
def two (t:List Nat) (width:Nat) (k:Nat) (px:List Nat) (b:Bool):Nat × (List Nat ⊕ Nat):=
 match vQ b t ((width-px.length:Nat):Int) k with
 | (k1,.inr e)=>(k1,.inr e)
 | (k1,.inl n1)=>
  match vQ (!b) t ((width-(px.length+n1):Nat):Int) k1 with
  | (k2,.inr e)=>(k2,.inr e)
  | (k2,.inl n2)=>(k2,.inl (px++fP n1 b++fP n2 (!b)))
def jf (was width:Int):List Int→Bool
 | []=>true
 | x::r=>if x≤was∨width≤x then false else jf x width r
theorem vT:∀ (l:List Nat) (was:Int) (width:Nat),(∀ x∈l,was<(x:Int)∧x<width)→l.Pairwise (· < ·)→jf was width (l.map Int.ofNat)=true:=by
 intro l
 induction l with
 | nil=>intro _ _ _ _;rfl
 | cons x r ih=>
  intro was width h hp;have hx:=h x (by simp);obtain⟨h1,h2⟩:=ed.1 hp;rw[dR,jf,if_neg (by simp;omega)];exact ih _ _ (fun y hy=>⟨by simpa using h1 y hy,(h y (by simp [hy])).2⟩) h2
theorem rI (l:List Nat):(l.map Int.ofNat).map iv=l.map nv:=by rw[eF];rfl
theorem rJ {w:World} {l:List Int} {v:Value} (width:Int) (hr:Reads w 1 v l.length (l.map iv)):
  Calls Tryz.prog 126 #[v,.int .i64 width] w fun e w'=>e= .returned (.bool (jf (-1) width l))∧w'=w:=by
 obtain⟨al,c,rfl⟩:=hr.sub;have hm:=hr.len_le;unfold maxLen at hm;have HR:=ac hr;clear hr;obtain⟨res,hres⟩:∃ res,jf (-1) width l=res:=⟨_,rfl⟩;rw[hres];have HRES:=ac hres;clear hres;go_enter Tryz.func126,Tryz.ntmps126;go_wp2_with fail
 go_loop [5,10] (fun vs vi=>∃ (k:Nat) (was:Int),k≤l.length∧vi= .int .i64 k∧vs= .int .i64 was∧jf was width (l.drop k)=res) (fun _ vi=>l.length-(intOf vi).toNat)
 case atStart=>exact⟨0, -1,by omega,rfl,rfl,HRES.out⟩
 case round=>
  obtain⟨k,was,hk,rfl,rfl,hst⟩:=hrel
  by_cases hkn:k<l.length
  ·obtain⟨g,o,rfl,e1⟩:=HR.out.at_ hkn;have hx:=ai hkn;rw[au,hx] at e1;simp only[cB,iv] at e1;rw[cC hkn,jf] at hst;clear hx;generalize l[k]=x at*
   have hkl:(k:Int)<l.length:=by omega
   by_cases h1:x≤was
   ·rw[if_pos (.inl h1)] at hst;subst hst;go_wp2_with fail;go_ret;exact⟨rfl,rfl⟩
   ·by_cases h2:width≤x
    ·rw[if_pos (.inr h2)] at hst;subst hst;go_wp2_with fail;go_ret;exact⟨rfl,rfl⟩
    ·rw[if_neg (by omega)] at hst;have HST:=ac hst;clear hst;go_wp2_with fail;exact⟨⟨k+1,x,by omega,by go_num,rfl,HST.out⟩,by simp [intOf];omega⟩
  ·obtain rfl:k=l.length:=by omega
   rw[iT,jf] at hst;subst hst;go_wp2_with fail;go_ret;exact⟨rfl,rfl⟩
theorem vU {w0 w:World} {F:SProp} (h:St w0 w F) {p:List Nat} (hb:Bit p) (hl:p.length≤1000000) {sb:ByteArray} (hsb:sb=⟨(tx p).toArray⟩):
  Calls Tryz.prog 106 #[.string sb] w fun e w'=>∃ v,e= .returned v∧St w0 w' (own 3 1 v (ay p).length ((ay p).map nv)*F):=by
 subst hsb;have hvx:(tx p).length=p.length:=by simp
 obtain⟨res,hres⟩:∃ res,ay p=res:=⟨_,rfl⟩;rw[hres];rw[ay] at hres;have HB:=ac hb;clear hb;have T:=fA;have H:=ac (St.own_nil 3 1 h);clear h;have HRES:=ac hres;clear hres;go_enter Tryz.func106,Tryz.ntmps106;go_wp2_with fail
 go_loopw [3,4] (fun vo vi wr=>∃ (k c:Nat) (acc:List Nat) (ao:Option Addr) (co:Nat),k≤p.length∧vi= .int .i64 k∧vo= .slice ao acc.length co∧c≤1∧c=(if k=0 then 0 else p.getD (k-1) 0)∧acc++cc c k (p.drop k)=res∧acc.length≤k∧St w0 wr (own 3 1 (.slice ao acc.length co) acc.length (acc.map nv)*F)) (fun _ vi _=>p.length-(intOf vi).toNat)
 case atStart=>exact⟨0,0,[],none,0,by omega,rfl,rfl,by omega,rfl,HRES.out,by simp,H.out⟩
 case round=>
  clear H;obtain⟨k,c,acc,ao,co,hk,rfl,rfl,hc1,hc,hall,hal,hst⟩:=hrel
  by_cases hkn:k<p.length
  ·have hg:(tx p)[k]? =some (dg p[k]):=by rw[tx,au,ai hkn];rfl
   have G:=fun h=>gu hg h
   have hx1:p[k]≤1:=HB.out _ (bo _);have hkl:(k:Int)<p.length:=by omega
   have hnx:p[k]=(if k+1=0 then 0 else p.getD (k+1-1) 0):=by
    rw[if_neg (by omega),ld,List.getD_eq_getElem?_getD,ai hkn];rfl
   rw[cC hkn,cc] at hall;have HNX:=ac hnx;clear hnx hg;have hco:=hst.reads.len_le;unfold maxLen at hco
   by_cases hk0:k=0
   ·subst hk0;rw[if_pos rfl] at hc;subst hc;generalize p[0]=x at*
    have HALL:=ac hall;clear hall;have HST:=ac hst;clear hst
    rcases(show x=0∨x=1 by omega) with rfl | rfl
    ·have HA2:acc++cc 0 (0+1) (p.drop (0+1))=res:=HALL.out;have HA2:=ac HA2;clear HALL;go_wp2_with fail;exact⟨⟨1,0,acc,ao,co,by omega,by go_num,rfl,by omega,HNX.out,HA2.out,by omega,HST.out⟩,by simp [intOf];omega⟩
    ·have HA2:acc++0::cc 1 (0+1) (p.drop (0+1))=res:=HALL.out;have HA2:=ac HA2;clear HALL;go_wp2_with (at_builtin;apply ag);refine on (aC T rfl _ _ rfl rfl (HST.out.drop_alloc (.cells #[.int .i64 0] 3)) rfl (kH wr 0) (dS [0]) (by unfold maxLen;omega) (by omega) ?_);intro v' w7 h9 _;have h9:St w0 w7 (own 3 1 v' (acc++[0]).length ((acc++[0]).map nv)*F):=by
      rw[ae,List.map_append];exact h9
     obtain⟨aN,cN,rfl⟩:=h9.reads.sub;have hle:(acc++[0]).length=acc.length+1:=by simp
     rw[zn] at HA2;generalize acc++[0]=acc2 at*
     have hle2:acc2.length≤1:=by omega
     rw[hle] at h9;have H9:=ac h9;clear h9;go_wp2_with fail;exact⟨⟨1,1,acc2,aN,cN,by omega,by go_num,by rw[hle],by omega,HNX.out,HA2.out,by omega,by rw[hle];exact H9.out⟩,by simp [intOf];omega⟩
   ·rw[if_neg hk0] at hc;obtain⟨m,rfl⟩:∃ m,k=m+1:=⟨k-1,by omega⟩;rw[ld,List.getD_eq_getElem?_getD,ai (by omega)] at hc;have hg2:(tx p)[m]? =some (dg c):=by
     rw[tx,au,ai (by omega),hc];rfl
    have G2:=fun h=>gu hg2 h
    clear hc hg2;generalize p[m+1]=x at*
    have hm1:((m+1:Nat):Int)-1=(m:Int):=by omega
    have hml:m<p.length:=by omega
    have HALL:=ac hall;clear hall;have HST:=ac hst;clear hst
    by_cases hxc:x=c
    ·subst hxc;have HA2:acc++cc x (m+1+1) (p.drop (m+1+1))=res:=by have:=HALL.out;rw[if_pos rfl] at this;exact this
     have HA2:=ac HA2;clear HALL;go_wp2_with fail;exact⟨⟨m+1+1,x,acc,ao,co,by omega,by go_num,rfl,hx1,HNX.out,HA2.out,by omega,HST.out⟩,by simp [intOf];omega⟩
    ·have HA2:acc++(m+1)::cc x (m+1+1) (p.drop (m+1+1))=res:=by have:=HALL.out;rw[if_neg hxc] at this;exact this
     have HA2:=ac HA2;clear HALL;have hd:(((dg x).toNat:Int) != ((dg c).toNat:Int))=true:=by
      rcases(show x=0∨x=1 by omega) with rfl | rfl <;> rcases(show c=0∨c=1 by omega) with rfl | rfl <;> first | exact absurd rfl hxc | decide
     go_wp2_with (at_builtin;apply ag);refine on (aC T rfl _ _ rfl rfl (HST.out.drop_alloc (.cells #[.int .i64 ((m+1:Nat):Int)] 3)) rfl (kH wr ((m+1:Nat):Int)) (dS [((m+1:Nat):Int)]) (by unfold maxLen;omega) (by omega) ?_);intro v' w7 h9 _;have h9:St w0 w7 (own 3 1 v' (acc++[m+1]).length ((acc++[m+1]).map nv)*F):=by
      rw[ae,List.map_append];exact h9
     obtain⟨aN,cN,rfl⟩:=h9.reads.sub;have hle:(acc++[m+1]).length=acc.length+1:=by simp
     rw[zn] at HA2;generalize acc++[m+1]=acc2 at*
     rw[hle] at h9;have H9:=ac h9;clear h9;go_wp2_with fail;exact⟨⟨m+1+1,x,acc2,aN,cN,by omega,by go_num,by rw[hle],hx1,HNX.out,HA2.out,by omega,by rw[hle];exact H9.out⟩,by simp [intOf];omega⟩
  ·obtain rfl:k=p.length:=by omega
   rw[iT,cc,bE] at hall;subst hall;have HST:=ac hst;clear hst;go_wp2_with fail;go_ret;exact⟨_,rfl,HST.out⟩
theorem vV {l:List Nat} {at':Int} {toB:Bool} {width k:Nat} (hk:k<l.length) (par:Bool):cU par at' toB width (l.drop k)=if at'<(l[k]:Int)∧par=toB then(l[k],(l.drop (k+1)).headD width) else cU (!par) at' toB width (l.drop (k+1)):=by
 rw[cC hk,cU]
theorem vW {w:World} {l:List Nat} {v:Value} (at':Int) (toB:Bool) (width:Nat) (hr:Reads w 1 v l.length (l.map nv)) (hl:l.length≤1000000):
  Calls Tryz.prog 144 #[v,.int .i64 at',.bool toB,.int .i64 (width:Int)] w fun e w'=>e= .returned (.tuple #[.int .i64 ((cU true at' toB width l).1:Nat),.int .i64 ((cU true at' toB width l).2:Nat)])∧∃ n,w'=w.drewN n:=by
 obtain⟨al,c,rfl⟩:=hr.sub;have HR:=ac hr;clear hr;obtain⟨res,hres⟩:∃ res,cU true at' toB width l=res:=⟨_,rfl⟩;rw[hres];have HRES:=ac hres;clear hres;go_enter Tryz.func144,Tryz.ntmps144;go_wp2_with fail
 go_loop [14] (fun vi=>∃ k:Nat,k≤l.length∧vi= .int .i64 k∧cU (decide (k%2=0)) at' toB width (l.drop k)=res) (fun vi=>l.length-(intOf vi).toNat)
 case atStart=>exact⟨0,by omega,rfl,HRES.out⟩
 case round=>
  obtain⟨k,hk,rfl,hst⟩:=hrel
  by_cases hkn:k<l.length
  ·obtain⟨g,o,rfl,e1⟩:=HR.out.at_ hkn;have hx:=ai hkn;rw[au,hx] at e1;simp only[cB,nv] at e1;rw[vV hkn] at hst;have hkl:(k:Int)<l.length:=by omega
   have hpar:(!decide (k%2=0))=decide ((k+1)%2=0):=by
    rcases nE k with h | h
    ·rw[h,show(k+1)%2=1 by omega];rfl
    ·rw[h,show(k+1)%2=0 by omega];rfl
   rw[hpar] at hst;have HN:∀ (hk2:k+1<l.length),∃ y:Nat,(l.drop (k+1)).headD width=y∧w.cell? ⟨g,o+(k+1),none⟩=some (.int .i64 (y:Int)):=fun hk2=>by
    obtain⟨g',o',he,e2⟩:=HR.out.at_ hk2;cases he;rw[au,ai hk2] at e2;rw[cC hk2];exact⟨_,rfl,e2⟩
   have HN:=ac HN;have hz:¬ k+1<l.length→(l.drop (k+1)).headD width=width:=fun h=>by rw[qe (by omega)];rfl
   have HZ:=ac hz;have hm2:(k:Int)%2=((k%2:Nat):Int):=by omega
   clear hx hz hpar;generalize l[k]=x at*
   by_cases h1:at'<(x:Int)
   ·rcases nE k with h2 | h2
    ·rw[h2] at hst hm2;cases toB
     ·rw[if_neg (by simp)] at hst;have HST:=ac hst;clear hst h2;go_wp2_with fail;exact⟨⟨k+1,by omega,by go_num,HST.out⟩,by simp [intOf];omega⟩
     ·rw[if_pos ⟨h1,by simp⟩] at hst;clear h2
      by_cases hk2:k+1<l.length
      ·obtain⟨y,hy,e2⟩:=HN.out hk2;rw[hy] at hst;have HST:=ac hst;clear hst;have hk3:((k:Int)+1)<l.length:=by omega
       clear hy;go_upto_region 6 with (fail)
       go_quiet (fail);go_wp2_with fail;go_ret2;exact⟨by rw[← HST.out];rfl,_,rfl⟩
      ·rw[HZ.out hk2] at hst;have HST:=ac hst;clear hst;have hk3:¬ ((k:Int)+1)<l.length:=by omega
       go_wp2_with fail;go_ret2;exact⟨by rw[← HST.out];rfl,0,rfl⟩
    ·rw[h2] at hst hm2;cases toB
     ·rw[if_pos ⟨h1,by simp⟩] at hst;clear h2
      by_cases hk2:k+1<l.length
      ·obtain⟨y,hy,e2⟩:=HN.out hk2;rw[hy] at hst;have HST:=ac hst;clear hst;have hk3:((k:Int)+1)<l.length:=by omega
       clear hy;go_upto_region 6 with (fail)
       go_quiet (fail);go_wp2_with fail;go_ret2;exact⟨by rw[← HST.out];rfl,_,rfl⟩
      ·rw[HZ.out hk2] at hst;have HST:=ac hst;clear hst;have hk3:¬ ((k:Int)+1)<l.length:=by omega
       go_wp2_with fail;go_ret2;exact⟨by rw[← HST.out];rfl,0,rfl⟩
     ·rw[if_neg (by simp)] at hst;have HST:=ac hst;clear hst h2;go_wp2_with fail;exact⟨⟨k+1,by omega,by go_num,HST.out⟩,by simp [intOf];omega⟩
   ·rw[if_neg (by simp [h1])] at hst;have HST:=ac hst;clear hst;go_wp2_with fail;exact⟨⟨k+1,by omega,by go_num,HST.out⟩,by simp [intOf];omega⟩
  ·obtain rfl:k=l.length:=by omega
   rw[iT,cU] at hst;subst hst;go_wp2_with fail;go_ret2;exact⟨rfl,0,rfl⟩
theorem vX {w:World} {l:List Nat} {v:Value} (at':Int) (toB:Bool) (width:Nat) (hr:Reads w 1 v l.length (l.map nv)) (hl:l.length≤1000000):
  Calls Tryz.prog 107 #[v,.int .i64 at',.bool toB,.int .i64 (width:Int)] w fun e w'=>e= .returned (.tuple #[.int .i64 ((cU true at' toB width l).1:Nat),.int .i64 ((cU true at' toB width l).2:Nat)])∧∃ n,w'=w.drewN n:=by
 obtain⟨al,c,rfl⟩:=hr.sub;have HR:=ac hr;clear hr;obtain⟨res,hres⟩:∃ res,cU true at' toB width l=res:=⟨_,rfl⟩;rw[hres];have HRES:=ac hres;clear hres;go_enter Tryz.func107,Tryz.ntmps107;go_wp2_with fail
 go_loop [10] (fun vi=>∃ k:Nat,k≤l.length∧vi= .int .i64 k∧cU (decide (k%2=0)) at' toB width (l.drop k)=res) (fun vi=>l.length-(intOf vi).toNat)
 case atStart=>exact⟨0,by omega,rfl,HRES.out⟩
 case round=>
  obtain⟨k,hk,rfl,hst⟩:=hrel
  by_cases hkn:k<l.length
  ·obtain⟨g,o,rfl,e1⟩:=HR.out.at_ hkn;have hx:=ai hkn;rw[au,hx] at e1;simp only[cB,nv] at e1;rw[vV hkn] at hst;have hkl:(k:Int)<l.length:=by omega
   have hpar:(!decide (k%2=0))=decide ((k+1)%2=0):=by
    rcases nE k with h | h
    ·rw[h,show(k+1)%2=1 by omega];rfl
    ·rw[h,show(k+1)%2=0 by omega];rfl
   rw[hpar] at hst;have HN:∀ (hk2:k+1<l.length),∃ y:Nat,(l.drop (k+1)).headD width=y∧w.cell? ⟨g,o+(k+1),none⟩=some (.int .i64 (y:Int)):=fun hk2=>by
    obtain⟨g',o',he,e2⟩:=HR.out.at_ hk2;cases he;rw[au,ai hk2] at e2;rw[cC hk2];exact⟨_,rfl,e2⟩
   have HN:=ac HN;have hz:¬ k+1<l.length→(l.drop (k+1)).headD width=width:=fun h=>by rw[qe (by omega)];rfl
   have HZ:=ac hz;have hm2:(k:Int)%2=((k%2:Nat):Int):=by omega
   clear hx hz hpar;generalize l[k]=x at*
   by_cases h1:at'<(x:Int)
   ·rcases nE k with h2 | h2
    ·rw[h2] at hst hm2;cases toB
     ·rw[if_neg (by simp)] at hst;have HST:=ac hst;clear hst h2;go_wp2_with fail;exact⟨⟨k+1,by omega,by go_num,HST.out⟩,by simp [intOf];omega⟩
     ·rw[if_pos ⟨h1,by simp⟩] at hst;clear h2
      by_cases hk2:k+1<l.length
      ·obtain⟨y,hy,e2⟩:=HN.out hk2;rw[hy] at hst;have HST:=ac hst;clear hst;have hk3:¬ (k:Int)=l.length-1:=by omega
       clear hy;go_upto_region 7 with (fail)
       go_quiet (fail);go_wp2_with fail;go_ret2;exact⟨by rw[← HST.out];rfl,_,rfl⟩
      ·rw[HZ.out hk2] at hst;have HST:=ac hst;clear hst;have hk3:(l.length:Int)-1=k:=by omega
       go_wp2_with fail;go_ret2;exact⟨by rw[← HST.out];rfl,0,rfl⟩
    ·rw[h2] at hst hm2;cases toB
     ·rw[if_pos ⟨h1,by simp⟩] at hst;clear h2
      by_cases hk2:k+1<l.length
      ·obtain⟨y,hy,e2⟩:=HN.out hk2;rw[hy] at hst;have HST:=ac hst;clear hst;have hk3:¬ (k:Int)=l.length-1:=by omega
       clear hy;go_upto_region 7 with (fail)
       go_quiet (fail);go_wp2_with fail;go_ret2;exact⟨by rw[← HST.out];rfl,_,rfl⟩
      ·rw[HZ.out hk2] at hst;have HST:=ac hst;clear hst;have hk3:(l.length:Int)-1=k:=by omega
       go_wp2_with fail;go_ret2;exact⟨by rw[← HST.out];rfl,0,rfl⟩
     ·rw[if_neg (by simp)] at hst;have HST:=ac hst;clear hst h2;go_wp2_with fail;exact⟨⟨k+1,by omega,by go_num,HST.out⟩,by simp [intOf];omega⟩
   ·rw[if_neg (by simp [h1])] at hst;have HST:=ac hst;clear hst;go_wp2_with fail;exact⟨⟨k+1,by omega,by go_num,HST.out⟩,by simp [intOf];omega⟩
  ·obtain rfl:k=l.length:=by omega
   rw[iT,cU] at hst;subst hst;go_wp2_with fail;go_ret2;exact⟨rfl,0,rfl⟩
theorem mQ (l:List Nat):∀ u∈l.map nv,u.oneCell'=true:=by
 intro u hu;obtain⟨x,_,rfl⟩:=bW.1 hu;rfl
theorem oO (w:World) (x:Nat):Reads (w.alloc (.cells #[.int .i64 (x:Int)] 3)) 1 (.slice (some ⟨w.heap.size,0,none⟩) 1 1) 1 ([x].map nv):=kH w x
def kK (was:Nat):List Nat→List Nat
 | []=>[]
 | x::r=>(x-was)::kK x r
theorem DP (l:List Nat) (width:Nat):∀ was,bY was l width=kK was (l++[width]):=by
 induction l with
 | nil=>intro was;rfl
 | cons x r ih=>intro was;rw[bY,ih,dB,kK]
theorem vY (l:List Nat) (width:Nat):∀ was,(bY was l width).length=l.length+1:=by
 induction l with
 | nil=>intro was;rfl
 | cons x r ih=>intro was;simp [bY,ih]
theorem DQ {w0 w:World} {F:SProp} (h:St w0 w F) {l:List Nat} {v:Value} {width:Nat} (hr:Stb w0 F (fun w=>Reads w 1 v l.length (l.map nv))) (hp:l.Pairwise (· < ·)) (hb:∀ x∈l,x<width) (hw:width≤32768) (hl:l.length≤1000000):
  Calls Tryz.prog 141 #[v,.int .i64 (width:Int)] w fun e w'=>∃ v',e= .returned (.tuple #[v',.int .i64 0])∧St w0 w' (own 3 1 v' (bY 0 l width).length ((bY 0 l width).map nv)*F):=by
 obtain⟨al,c,rfl⟩:=(hr w h).sub;have T:=fA;have hrg:jf (-1) (width:Int) (l.map Int.ofNat)=true:=vT l _ _ (fun x hx=>⟨by omega,hb x hx⟩) hp;have HRG:=ac (by
  have C:=rJ (l:=l.map Int.ofNat) (v:= .slice al l.length c) (width:Int) (w:=w) (by rw[rI,bI];exact hr w h);rw[hrg] at C;exact C)
 have hl1:=h.lit #[] 3 0 rfl (by decide);have hx1:=hr _ hl1.right;have HL1:=ac hl1;have HX1:=ac hx1;obtain⟨L,hL⟩:∃ L,L=l++[width]:=⟨_,rfl⟩;obtain⟨res,hres⟩:∃ res,res=bY 0 l width:=⟨_,rfl⟩;have hdL:[]++kK 0 (L.drop 0)=res:=by rw[hres,DP,hL];rfl
 have hLl:L.length=l.length+1:=by rw[hL];simp
 have hmo:∀ k (hk:k<L.length),L[k]≤width∧(∀ j,j<k→L.getD j 0≤L[k]):=by
  subst hL;intro k hk;have hpp:(l++[width]).Pairwise (· < ·):=JP.2 ⟨hp,zo _ _,fun a ha b hb2=>by rw[List.mem_singleton.1 hb2];exact hb a ha⟩;refine⟨?_,fun j hj=> ?_⟩
  ·have hm:=bo hk
   rcases cA.1 hm with h | h
   ·exact s9 (hb _ h)
   ·rw[List.mem_singleton.1 h];exact Nat.le_refl _
  ·have:=zj.1 hpp j k (by omega) hk hj;rw[List.getD_eq_getElem?_getD,ai (by omega)];exact s9 this
 have HMO:=ac hmo;have HDL:=ac hdL;have h2:∀ v' w',St w0 w' (own 3 1 v' (l.length+1) (l.map nv++[width].map nv)*F)→St w0 w' (own 3 1 v' L.length (L.map nv)*F):=fun v' w' h=>by
  rw[hL,ae,List.map_append];exact h
 have H2:=ac h2;have HLL:=ac hLl;have hLm:L.length≤1000001:=by omega
 rw[← hres];clear hrg hl1 hx1 hL hres hdL hmo hp hb h2 hLl;have H:=ac h;clear h;have hw1:¬ (width:Int)<0:=by omega
 have hw2:¬ (32768:Int)<width:=by omega
 go_enter Tryz.func141,Tryz.ntmps141;go_wp2_with fail;refine HRG.out.mono ?_;rintro e w2 ⟨rfl,rfl⟩;go_wp2_with (at_builtin;apply ag);refine on (aC T rfl _ _ rfl rfl HL1.out rfl HX1.out (mQ l) (by unfold maxLen;omega) (by omega) ?_);intro v3 w3 h3 _;rw[ba,bQ] at h3;obtain⟨a3,c3,rfl⟩:=h3.reads.sub;have H3:=ac h3;clear h3;go_wp2_with (at_builtin;apply ag);refine on (aC T rfl _ _ rfl rfl (H3.out.drop_alloc (.cells #[.int .i64 (width:Int)] 3)) rfl (oO w3 width) (mQ [width]) (by unfold maxLen;omega) (by omega) ?_);intro v4 w4 h4 _;have h4:=H2.out _ _ h4;obtain⟨a4,c4,rfl⟩:=h4.reads.sub;have H4:=ac (St.own_nil 3 1 h4);clear h4 H3 HL1 HX1 HRG H;go_wp2_with fail
 go_loopw [6,7,29] (fun vo vs vi wr=>∃ (k was:Nat) (acc:List Nat) (ao:Option Addr) (co:Nat),k≤L.length∧vi= .int .i64 k∧vo= .slice ao acc.length co∧vs= .int .i64 was∧was=(if k=0 then 0 else L.getD (k-1) 0)∧was≤width∧acc.length=k∧acc++kK was (L.drop k)=res∧St w0 wr (own 3 1 (.slice ao acc.length co) acc.length (acc.map nv)*(own 3 1 (.slice a4 L.length c4) L.length (L.map nv)*F))) (fun _ _ vi _=>L.length-(intOf vi).toNat)
 case atStart=>exact⟨0,0,[],none,0,by omega,rfl,rfl,rfl,rfl,by omega,rfl,HDL.out,H4.out⟩
 case round=>
  clear H4;obtain⟨k,was,acc,ao,co,hk,rfl,rfl,rfl,hwas,hww,hal,hall,hst⟩:=hrel
  by_cases hkn:k<L.length
  ·obtain⟨g,o,rfl,e1⟩:=hst.right.reads.at_ hkn;have hx:=ai hkn;rw[au,hx] at e1;simp only[cB,nv] at e1;rw[cC hkn,kK,zn] at hall;have hxw:=(HMO.out k hkn).1;have hwx:was≤L[k]:=by
    rw[hwas]
    split
    ·omega
    ·exact(HMO.out k hkn).2 _ (by omega)
   have hnx:L[k]=(if k+1=0 then 0 else L.getD (k+1-1) 0):=by
    rw[if_neg (by omega),ld,List.getD_eq_getElem?_getD,hx];rfl
   have hkl:(k:Int)<L.length:=by omega
   clear hx hwas;generalize L[k]=x at*
   have hsub:(x:Int)-was=((x-was:Nat):Int):=by omega
   have hsw:x-was≤32768:=by omega
   generalize x-was=d at*
   have HALL:=ac hall;have HNX:=ac hnx;have HST:=ac hst;have HAL:=ac hal;have haln:acc.length≤1000001:=by omega
   clear hall hnx hst hal;go_wp2_with (at_builtin;apply ag);refine on (aC T rfl _ _ rfl rfl (HST.out.drop_alloc (.cells #[.int .i64 (d:Int)] 3)) rfl (oO wr d) (mQ [d]) (by unfold maxLen;omega) (by omega) ?_);intro v5 w5 h5 _;have h5:St w0 w5 (own 3 1 v5 (acc++[d]).length ((acc++[d]).map nv)*(own 3 1 (.slice (some ⟨g,o,none⟩) L.length c4) L.length (L.map nv)*F)):=by
    rw[ae,List.map_append];exact h5
   obtain⟨aN,cN,rfl⟩:=h5.reads.sub;have hle:(acc++[d]).length=acc.length+1:=by simp
   generalize acc++[d]=acc2 at*
   have H5:=ac h5;clear h5;rw[hle];have HLE:=ac hle;clear hle;go_wp2_with fail;refine⟨⟨k+1,x,acc2,aN,cN,by omega,by go_num,by rw[HLE.out],rfl,HNX.out,hxw,by rw[HLE.out,HAL.out],HALL.out,H5.out⟩,by simp [intOf];omega⟩
  ·obtain rfl:k=L.length:=by omega
   rw[iT,kK,bE] at hall;subst hall;have hst2:=(hst.perm (af _ _ _)).right;have HST:=ac hst2;clear hst hst2 hal;go_wp2_with fail;go_ret2;exact⟨_,rfl,HST.out⟩
theorem DR {W:List (List Nat)} {i:Nat} {w:List Nat} (h:W[i]? =some w):W.getD i []=w:=by
 rw[List.getD_eq_getElem?_getD,h];rfl
theorem DS (black:Bool):∀ K:List Nat,(∀ i∈K,i<104)→K.length≤(fC (aI black) K).length∧(fC (aI black) K).length≤13*K.length:=by
 intro K
 induction K with
 | nil=>intro _;simp [fC]
 | cons i K ih=>
  intro h;have h1:=ih fun j hj=>h j (by simp [hj])
  obtain⟨v,hv,hvn⟩:=oK black (i:=i) (h i (by simp));have hl:=kG black v (aG hv);rw[kJ,DR hv,ae,aK];omega
theorem jF (black:Bool) {n:Nat} (hn:n≤32768):(aM black n).length≤300:=by
 have h1:=(DS black (eN n) (fun i hi=>DA i hi)).2;have h3:(eN n).length≤20:=by
  rw[eN];simp only[ae,dK,gY]
  split
  ·simp;omega
  ·simp;omega
 rw[aM];omega
theorem mR (p:List Nat):(ay p).Pairwise (· < ·):=DJ p 0 0
theorem jg:Bit []:=fun x hx=>by cases hx
theorem oP (p:List Nat):(ay p).length≤p.length:=DK p 0 0
theorem DT (w:World) (width:Int):Calls Tryz.prog 93 #[.int .i64 width] w fun e w'=>e= .returned (.bool (decide (1≤width∧width≤32768)))∧w'=w:=by
 by_cases h1:1≤width
 ·by_cases h2:width≤32768
  ·rw[decide_eq_true ⟨h1,h2⟩];go_enter Tryz.func93,Tryz.ntmps93;go_wp2_with fail;go_ret;exact⟨rfl,rfl⟩
  ·rw[decide_eq_false (by omega)];go_enter Tryz.func93,Tryz.ntmps93;go_wp2_with fail;go_ret;exact⟨rfl,rfl⟩
 ·rw[decide_eq_false (by omega)];go_enter Tryz.func93,Tryz.ntmps93;go_wp2_with fail;go_ret;exact⟨rfl,rfl⟩
theorem rK (w:World) {width:Nat} (h1:1≤width) (h2:width≤32768):Calls Tryz.prog 93 #[.int .i64 (width:Int)] w fun e w'=>e= .returned (.bool true)∧w'=w:=by
 have:=DT w (width:Int);rw[decide_eq_true (by omega)] at this;exact this
theorem vZ (l:List Nat) (width:Nat):∀ was,(∀ x∈l,x<width)→∀ y∈bY was l width,y≤width:=by
 induction l with
 | nil=>intro was _ y hy;simp [bY] at hy;omega
 | cons x r ih=>
  intro was h y hy;rw[bY] at hy
  rcases List.mem_cons.1 hy with rfl | hy
  ·have:=h x (by simp);omega
  ·exact ih x (fun z hz=>h z (by simp [hz])) y hy
theorem rL {w0 w:World} {F:SProp} {C Wb:Nat} {acc:List Nat} {low:Bool} (h:St w0 w (bc C*(az Wb acc low*F))) {l:List Nat} {v:Value} {width:Nat} (hr:Stb w0 F (fun w=>Reads w 1 v l.length (l.map nv))) (hp:l.Pairwise (· < ·)) (hb:∀ x∈l,x<width) (h1:1≤width) (hw:width≤32768) (hl:l.length≤100000) (hm:acc.length≤900000000):
  Calls Tryz.prog 94 #[.pointer (some ⟨Wb,0,none⟩),.pointer (some ⟨C,0,none⟩),v,.int .i64 (width:Int)] w fun e w'=>e= .returned (.int .i64 0)∧St w0 w' (bc C*(az Wb (acc++cE false (bY 0 l width)) low*F)):=by
 have HFT:=ac (fun w=>rK w h1 hw);have HLN:=ac (DQ h ((hr.more _).more _) hp hb hw (by omega));obtain⟨al,c,rfl⟩:=(hr w h.right.right).sub;have hle:=vZ l width 0 hb;have hll:=vY l width 0;generalize bY 0 l width=L at*
 have hLl:L.length≤100001:=by omega
 have HLE:=ac hle;clear hle hll hb hp hr;have H:=ac h;clear h;obtain⟨res,hres⟩:∃ res,res=acc++cE false L:=⟨_,rfl⟩;rw[← hres];have HRES:=ac hres;clear hres;go_enter Tryz.func94,Tryz.ntmps94;go_wp2_with fail;refine(HFT.out _).mono ?_;rintro e w2 ⟨rfl,rfl⟩;go_wp2_with fail;refine HLN.out.mono ?_;rintro e w3 ⟨v3,rfl,h3⟩;obtain⟨a3,c3,rfl⟩:=h3.reads.sub;have H3:=ac (h3.perm (show _=bc C*(az Wb acc low*(own 3 1 (.slice a3 L.length c3) L.length (L.map nv)*F)) by ac_rfl));clear h3 HLN HFT H;go_wp2_with fail
 go_loopw [10,32] (fun ve vi wr=>∃ (k:Nat) (acc2:List Nat),k≤L.length∧ve= .int .i64 0∧vi= .int .i64 k∧acc2.length≤acc.length+300*k∧acc2++cE (decide (k%2=1)) (L.drop k)=res∧St w0 wr (bc C*(az Wb acc2 low*(own 3 1 (.slice a3 L.length c3) L.length (L.map nv)*F)))) (fun _ vi _=>L.length-(intOf vi).toNat)
 case atStart=>exact⟨0,acc,by omega,rfl,rfl,by omega,HRES.out.symm,H3.out⟩
 case round=>
  clear H3 HRES;obtain⟨k,acc2,hk,rfl,rfl,hacc,hall,hst⟩:=hrel
  by_cases hkn:k<L.length
  ·obtain⟨g,o,rfl,e1⟩:=hst.right.right.reads.at_ hkn;have hx:=ai hkn;rw[au,hx] at e1;simp only[cB,nv] at e1;rw[cC hkn,cE,← List.append_assoc] at hall;have hxw:=HLE.out L[k] (bo _);have hpar:(!decide (k%2=1))=decide ((k+1)%2=1):=by
    rcases nE k with h | h
    ·rw[h,show(k+1)%2=1 by omega];rfl
    ·rw[h,show(k+1)%2=0 by omega];rfl
   rw[hpar] at hall;have hkl:(k:Int)<L.length:=by omega
   have hm2:(k:Int)%2=((k%2:Nat):Int):=by omega
   clear hx hpar;generalize L[k]=x at*
   have htl:∀ b,(aM b x).length≤300:=fun b=>jF b (by omega)
   have HTL:=ac htl;have HALL:=ac hall;have HACC:=ac hacc;clear htl hall
   rcases nE k with h2 | h2
   ·rw[h2] at HALL hm2;have HCW:=ac (oN hst x (by omega) false (by omega) (j:=(x:Int)) rfl);have HT2:=ac (HTL.out false);clear hst h2 hacc HTL;go_wp2_with fail;refine HCW.out.mono ?_;rintro e w5 ⟨rfl,h6⟩;have H6:=ac h6;clear h6 HCW;go_wp2_with fail;exact⟨⟨k+1,acc2++aM false x,by omega,rfl,by go_num,by have:=HT2.out;have:=HACC.out;rw[ae];omega,HALL.out,H6.out⟩,by simp [intOf];omega⟩
   ·rw[h2] at HALL hm2;have HCW:=ac (oN hst x (by omega) true (by omega) (j:=(x:Int)) rfl);have HT2:=ac (HTL.out true);clear hst h2 hacc HTL;go_wp2_with fail;refine HCW.out.mono ?_;rintro e w5 ⟨rfl,h6⟩;have H6:=ac h6;clear h6 HCW;go_wp2_with fail;exact⟨⟨k+1,acc2++aM true x,by omega,rfl,by go_num,by have:=HT2.out;have:=HACC.out;rw[ae];omega,HALL.out,H6.out⟩,by simp [intOf];omega⟩
  ·obtain rfl:k=L.length:=by omega
   rw[iT,cE,bE] at hall;subst hall;have hst2:=(hst.perm (show _=own 3 1 (.slice a3 L.length c3) L.length (L.map nv)*(bc C*(az Wb acc2 low*F)) by ac_rfl)).right;have HST:=ac hst2;clear hst hst2 hacc;go_wp2_with fail;go_ret;exact⟨rfl,HST.out⟩
theorem jG (i:Nat):(aL.getD i []).length≤7:=by
 rw[List.getD_eq_getElem?_getD];cases hx:aL[i]? with
 | none=>simp
 | some v=>exact(oJ v (aG hx)).2
theorem wa {row top:List Nat} {width:Nat} (f:Nat) {at':Int} (b:Bool) (h:¬ at'<width):db row top width f at' b=[]:=by
 cases f with
 | zero=>rfl
 | succ f=>rw[db,if_neg h]
theorem DU {w:World} {f1 f2:Nat} {A1 A2 A3:Array Value} {P1 P2 P3:World→Prop} {r:Value}
  (h1:Calls Tryz.prog f1 A1 w fun e w'=>e= .returned r∧P1 w')
  (h2:∀ w,P1 w→Calls Tryz.prog f2 A2 w fun e w'=>e= .returned r∧P2 w')
  (h3:∀ w,P2 w→Calls Tryz.prog f2 A3 w fun e w'=>e= .returned r∧P3 w'):
  Calls Tryz.prog f1 A1 w fun e w'=>e= .returned r∧Calls Tryz.prog f2 A2 w' fun e w'=>e= .returned r∧Calls Tryz.prog f2 A3 w' fun e w'=>e= .returned r∧P3 w':=by
 refine h1.mono ?_;rintro e w' ⟨rfl,h⟩;refine⟨rfl,(h2 _ h).mono ?_⟩;rintro e w' ⟨rfl,h⟩;exact⟨rfl,h3 _ h⟩
theorem wb {w0 w:World} {F:SProp} {C Wb:Nat} {acc:List Nat} {low:Bool} (h:St w0 w (bc C*(az Wb acc low*F))) {row top:List Nat} {vr vt:Value} {width:Nat} (hr:Stb w0 F (fun w=>Reads w 1 vr row.length (row.map nv))) (ht:Stb w0 F (fun w=>Reads w 1 vt top.length (top.map nv)))
  (hrp:row.Pairwise (· < ·)) (hrb:∀ x∈row,x<width) (htp:top.Pairwise (· < ·)) (htb:∀ x∈top,x<width) (h1:1≤width) (hw:width≤32768) (hrl:row.length≤100000) (htl:top.length≤100000) (hm:acc.length≤900000000):
  Calls Tryz.prog 98 #[.pointer (some ⟨Wb,0,none⟩),.pointer (some ⟨C,0,none⟩),vr,vt,.int .i64 (width:Int)] w fun e w'=>e= .returned (.int .i64 0)∧St w0 w' (bc C*(az Wb (acc++db row top width (width+1) (-1) false) low*F)):=by
 have HFT:=ac (fun w=>rK w h1 hw);have hrg:∀ (l:List Nat),l.Pairwise (· < ·)→(∀ x∈l,x<width)→jf (-1) (width:Int) (l.map Int.ofNat)=true:=fun l h1 h2=>vT l _ _ (fun x hx=>⟨by omega,h2 x hx⟩) h1
 have HR1:=ac (fun(w:World) (hw:St w0 w F)=>(by
  have C:=rJ (l:=row.map Int.ofNat) (v:=vr) (width:Int) (w:=w) (by rw[rI,bI];exact hr w hw);rw[hrg row hrp hrb] at C;exact C:Calls Tryz.prog 126 #[vr,.int .i64 (width:Int)] w fun e w'=>e= .returned (.bool true)∧w'=w))
 have HR2:=ac (fun(w:World) (hw:St w0 w F)=>(by
  have C:=rJ (l:=top.map Int.ofNat) (v:=vt) (width:Int) (w:=w) (by rw[rI,bI];exact ht w hw);rw[hrg top htp htb] at C;exact C:Calls Tryz.prog 126 #[vt,.int .i64 (width:Int)] w fun e w'=>e= .returned (.bool true)∧w'=w))
 have HNR:=ac (fun(at':Int) (h:at'<width) (b:Bool)=>mP (at':=at') (toB:=b) (width:=width) row true hrp hrb h);have HNT:=ac (fun(at':Int) (h:at'<width) (b:Bool)=>mP (at':=at') (toB:=b) (width:=width) top true htp htb h);have HCR:=ac (fun(w:World) (hw:St w0 w F) (at':Int) (b:Bool)=>vW at' b width (hr w hw) (by omega));have HCT:=ac (fun(w:World) (hw:St w0 w F) (at':Int) (b:Bool)=>vW at' b width (ht w hw) (by omega));clear hrg hrp hrb htp htb hr ht;have H:=ac h;clear h;obtain⟨res,hres⟩:∃ res,acc++db row top width (width+1) (-1) false=res:=⟨_,rfl⟩;rw[hres];have HRES:=ac hres;clear hres hrl htl;go_enter Tryz.func98,Tryz.ntmps98;go_wp2_with fail;refine(HFT.out _).mono ?_;rintro e w2 ⟨rfl,rfl⟩;go_wp2_with fail;refine(HR1.out _ H.out.right.right).mono ?_;rintro e w2 ⟨rfl,rfl⟩;go_wp2_with fail;refine(HR2.out _ H.out.right.right).mono ?_;rintro e w2 ⟨rfl,rfl⟩;clear HR1 HR2 HFT;go_wp2_with fail
 go_loopg [11,12] (width+1) (fun g vb va wr=>∃ (at':Int) (b:Bool) (acc2:List Nat),vb= .bool b∧va= .int .i64 at'∧ -1≤at'∧at'≤width∧(width:Int)≤g+at'∧acc2.length+700*g≤acc.length+700*(width+1)∧acc2++db row top width g at' b=res∧St w0 wr (bc C*(az Wb acc2 low*F)))
 case atStart=>exact⟨-1,false,acc,rfl,rfl,by omega,by omega,by omega,by omega,HRES.out,H.out⟩
 case round=>
  clear H HRES;obtain⟨at',b,acc2,rfl,rfl,ha1,ha2,hg,hacc,hall,hst⟩:=hrel
  by_cases hlt:at'<width
  ·obtain⟨g,rfl⟩:∃ g,gk=g+1:=⟨gk-1,by omega⟩;rw[db,if_pos hlt] at hall;simp only at hall;have nr:=HNR.out at' hlt (!b);have nt:=HNT.out at' hlt (!b);have HC1:=ac (HCR.out _ hst.right.right at' (!b));have HC2:=ac (fun w hw=>HCT.out w hw at' (!b));generalize cU true at' (!b) width row=a at*
   generalize cU true at' (!b) width top=c at*
   obtain⟨a1,a2⟩:=a;obtain⟨c1,c2⟩:=c;simp only at hall nr nt HC1 HC2;obtain⟨nr1,nr2,nr3,_⟩:=nr;obtain⟨nt1,nt2,nt3,_⟩:=nt;have HALL:=ac hall;have HG:=ac hg;have HACC:=ac hacc;have hacl:acc2.length≤930000000:=by omega
   clear hall hg hacc;have HST:=ac hst;clear hst;go_wp2_with fail;refine HC1.out.mono ?_;rintro e w3 ⟨rfl,n3,rfl⟩;have h3:=HST.out.drewN n3;have HC3:=ac (HC2.out _ h3.right.right);have H3:=ac h3;clear h3 HC1 HC2 HST;generalize wr.drewN n3=W3 at*
   go_wp2_with fail;refine HC3.out.mono ?_;rintro e w4 ⟨rfl,n4,rfl⟩;have h4:=H3.out.drewN n4;have H4:=ac h4;clear h4 H3 HC3;generalize W3.drewN n4=W4 at*
   by_cases hp:c2<a1
   ·have hpi:(c2:Int)<a1:=by omega
    have hall:=HALL.out;rw[if_pos hp,← List.append_assoc] at hall;have HALL2:=ac hall;clear hall HALL;have HCW:=ac (rE H4.out 8 (by omega) (by omega) (j:=5) (by decide));have HML:=ac (jG 8);go_wp2_with fail;refine HCW.out.mono ?_;rintro e w5 ⟨rfl,h5⟩;have H5:=ac h5;clear h5 HCW H4;go_wp2_with fail
    go_roundg g
    case measure=>omega
    case rel=>exact⟨c2,b,acc2++aL.getD 8 [],rfl,rfl,by omega,by omega,by have:=HG.out;omega,by have:=HACC.out;have:=HML.out;rw[ae];omega,HALL2.out,H5.out⟩
   ·have hpi:¬ (c2:Int)<a1:=by omega
    have hall:=HALL.out;rw[if_neg hp] at hall;clear HALL
    by_cases hv:a1≤c1+3∧c1≤a1+3
    ·rw[if_pos hv,← List.append_assoc] at hall;have hv1:(-3:Int)≤(a1:Int)-c1:=by omega
     have hv2:(a1:Int)-c1≤3:=by omega
     have HALL2:=ac hall;clear hall;have HCW:=ac (rE H4.out (a1+3-c1) (by omega) (by omega) (j:=(a1:Int)-c1) (by omega));have HML:=ac (jG (a1+3-c1));clear hv;go_wp2_with fail;refine HCW.out.mono ?_;rintro e w5 ⟨rfl,h5⟩;have H5:=ac h5;clear h5 HCW H4;go_wp2_with fail
     go_roundg g
     case measure=>omega
     case rel=>exact⟨a1, !b,acc2++aL.getD (a1+3-c1) [],rfl,rfl,by omega,by omega,by have:=HG.out;omega,by have:=HACC.out;have:=HML.out;rw[ae];omega,HALL2.out,H5.out⟩
    ·rw[if_neg hv] at hall;have cV:(-3:Int)≤(a1:Int)-c1∧¬ (a1:Int)-c1≤3∨¬ (-3:Int)≤(a1:Int)-c1:=by omega
     simp only[← List.append_assoc] at hall;obtain⟨q,hq⟩:∃ q:Nat,q=(max at' 0).toNat:=⟨_,rfl⟩;rw[← hq] at hall;have hmx:max at' 0=(q:Int):=by omega
     have hq1:(a1:Int)-(q:Nat)=((a1-q:Nat):Int):=by omega
     have hq2:(a2:Int)-a1=((a2-a1:Nat):Int):=by omega
     have hq3:a1-q≤32768:=by omega
     have hq4:a2-a1≤32768:=by omega
     have HML:=ac (jG 7);have HT1:=ac (jF b hq3);have HT2:=ac (jF (!b) hq4);have hl1:(acc2++aL.getD 7 []).length≤940000000:=by have:=HML.out;rw[ae];omega
     have hl2:(acc2++aL.getD 7 []++aM b (a1-q)).length≤940000000:=by have:=HML.out;have:=HT1.out;simp only[ae];omega
     have hl3:(acc2++aL.getD 7 []++aM b (a1-q)++aM (!b) (a2-a1)).length≤acc2.length+7+300+300:=by have:=HML.out;have:=HT1.out;have:=HT2.out;simp only[ae];omega
     have HCW:=ac (rE H4.out 7 (by omega) (by omega) (j:=4) (by decide));have HC5:=ac (fun w (h:St w0 w (bc C*(az Wb (acc2++aL.getD 7 []) low*F)))=>oN h (a1-q) hq3 b (by omega) (j:=((a1-q:Nat):Int)) rfl);have HC6:=ac (fun w (h:St w0 w (bc C*(az Wb (acc2++aL.getD 7 []++aM b (a1-q)) low*F)))=>oN h (a2-a1) hq4 (!b) (by omega) (j:=((a2-a1:Nat):Int)) rfl);have HP:=ac (DU HCW.out HC5.out HC6.out);have HE:=ac (show(acc2++aL.getD 7 []++aM b (a1-q)++aM (!b) (a2-a1)).length≤acc2.length+7+300+300∧acc2++aL.getD 7 []++aM b (a1-q)++aM (!b) (a2-a1)++db row top width g (↑a2) b=res∧acc2.length+700*(g+1)≤acc.length+700*(width+1)∧(width:Int)≤(a2:Int)+g∧a2≤width∧at'<a2 from⟨hl3,hall,HACC.out,by have:=HG.out;omega,by omega,by omega⟩);clear HML HT1 HT2 HCW HC5 HC6 HG HACC hl1 hl2 hl3 hall hq H4 HCR HCT HNR HNT hv hacl;generalize acc2++aL.getD 7 []++aM b (a1-q)++aM (!b) (a2-a1)=acc3 at*
     generalize a1-q=e1 at*
     generalize a2-a1=e2 at*
     have HQ:=ac (⟨hmx,hq1,hq2,hq3,hq4⟩:_∧_∧_∧_∧_);clear hmx hq1 hq2 hq3 hq4;have HB:=ac (⟨ha1,ha2,hlt,nr1,nr2,nr3⟩:_∧_∧_∧_∧_∧_);have hba:a1≤32768:=by omega
     have hbc:c1≤32768:=by omega
     clear ha1 ha2 nr1 nr2 nr3 nt1 nt2 nt3
     rcases cV with ⟨hv1,hv2⟩ | hv1 <;> (
      clear hp
      go_upto_region 10 with (fail)
      clear hpi hv1 hlt hba hbc
      try clear hv2
      obtain⟨hmx,hq1,hq2,hq3,hq4⟩:=HQ.out
      go_wp2_with fail
      refine HP.out.mono ?_
      rintro e w5 ⟨rfl,HP5⟩
      have HP5:=ac HP5;clear HP
      go_wp2_with fail
      refine HP5.out.mono ?_
      rintro e w6 ⟨rfl,HP6⟩
      have HP6:=ac HP6;clear HP5
      go_wp2_with fail
      refine HP6.out.mono ?_
      rintro e w7 ⟨rfl,h7⟩
      have H7:=ac h7;clear h7 HP6
      go_wp2_with fail
      obtain⟨he1,he2,he3,he4,he5,he6⟩:=HE.out
      have hb:=HB.out
      go_roundg g
      case measure=>omega
      case rel=>exact⟨a2,b,acc3,rfl,rfl,by omega,by omega,by omega,by omega,he2,H7.out⟩)
  ·have hall':acc2=res:=by rw[← hall,wa _ _ hlt,bE]
   subst hall';have HST:=ac hst;clear hst hacc hall;go_wp2_with fail;go_ret;exact⟨rfl,HST.out⟩
theorem DV:∀ (L:List Nat) (b:Bool),(∀ x∈L,x≤32768)→(cE b L).length≤300*L.length:=by
 intro L
 induction L with
 | nil=>intro b _;simp [cE]
 | cons x r ih=>
  intro b h;have h1:=jF b (h x (by simp));have h2:=ih (!b) (fun y hy=>h y (by simp [hy]));rw[cE,ae,aK];omega
theorem oQ {row top:List Nat} {width:Nat} (hr:row.Pairwise (· < ·)) (hrb:∀ x∈row,x<width) (ht:top.Pairwise (· < ·)) (htb:∀ x∈top,x<width) (hw:width≤32768):∀ (f:Nat) (at':Int) (b:Bool),(db row top width f at' b).length≤700*f:=by
 intro f
 induction f with
 | zero=>intro at' b;simp [db]
 | succ f ih=>
  intro at' b;rw[db]
  by_cases hlt:at'<(width:Int)
  ·rw[if_pos hlt];simp only;have nr:=mP (at':=at') (toB:= !b) (width:=width) row true hr hrb hlt;generalize cU true at' (!b) width row=a at*
   generalize cU true at' (!b) width top=c at*
   split
   ·have:=jG 8;have:=ih (c.2:Int) b;rw[ae];omega
   ·split
    ·have:=jG (a.1+3-c.1);have:=ih (a.1:Int) (!b);rw[ae];omega
    ·have:=jG 7;have:=ih (a.2:Int) b;have:=jF b (show a.1-(max at' 0).toNat≤32768 by omega);have:=jF (!b) (show a.2-a.1≤32768 by omega);simp only[ae];omega
  ·rw[if_neg hlt];simp
def gS:List (Value × List Nat)→SProp
 | []=>di
 | x::r=>own 3 1 x.1 x.2.length (x.2.map nv)*gS r
theorem DW (R:List (Value × List Nat)) (x:Value × List Nat):gS (R++[x])=own 3 1 x.1 x.2.length (x.2.map nv)*gS R:=by
 induction R with
 | nil=>rfl
 | cons y r ih=>rw[dB,gS,ih,gS];ac_rfl
theorem DX {w0 w:World}:∀ (R:List (Value × List Nat)) (F:SProp),St w0 w (gS R*F)→∀ x∈R,Reads w 1 x.1 x.2.length (x.2.map nv):=by
 intro R
 induction R with
 | nil=>intro F _ x hx;cases hx
 | cons y r ih=>
  intro F h x hx;have h:St w0 w (own 3 1 y.1 y.2.length (y.2.map nv)*(gS r*F)):=h.perm (by rw[gS,bk])
  rcases List.mem_cons.1 hx with rfl | hx
  ·exact h.reads
  ·exact ih _ h.right x hx
theorem DY {w0 w:World} {F:SProp} (h:St w0 w F):St w0 w (gS []*F):=h.perm (eG F).symm
theorem DZ:ElemT Tryz.prog 78 79 1 24 (.slice none 0 0):=
 ⟨Tryz.underlying78,info_parts (by kernel_rfl),rfl,by decide⟩
def bj (width:Nat):List (List Nat)→List Nat→List Nat
 | [],acc=>acc
 | l::r,acc=>bj width r (dn (acc++cE false (bY 0 l width)))
def gF (width:Nat) (l:List Nat):Prop:=l.Pairwise (· < ·)∧(∀ x∈l,x<width)∧l.length≤400
theorem rM (l:List Nat):(dn l).length≤l.length+7:=by
 rw[dn,ae,dK];omega
theorem oR {width:Nat} {l:List Nat} (h:gF width l) (hw:width≤32768):(cE false (bY 0 l width)).length≤300*401:=by
 have:=DV (bY 0 l width) false (fun x hx=>by have:=vZ l width 0 h.2.1 x hx;omega);rw[vY] at this;have:=h.2.2;omega
theorem D0 {w0 w:World} {F:SProp} (h:St w0 w F) (htab:eu w0 F) {R:List (Value × List Nat)} {v:Value} (hv:Stb w0 F (fun w=>Reads w 1 v R.length (R.map Prod.fst))) (hr:Stb w0 F (fun w=>∀ x∈R,Reads w 1 x.1 x.2.length (x.2.map nv))) {width:Nat} (h1:1≤width) (hw:width≤32768) (hR:∀ x∈R,gF width x.2) (hN:R.length≤1000):
  Calls Tryz.prog 44 #[v,.int .i64 (width:Int)] w fun e w'=>∃ v',e= .returned (.tuple #[v',.int .i64 0])∧St w0 w' (own 5 1 v' (((bj width (R.map Prod.snd) []).length+7)/8) ((aq false (bj width (R.map Prod.snd) [])).map bv)*F):=by
 have HFT:=ac (fun w=>rK w h1 hw);obtain⟨a0,c0,rfl⟩:=(hv w h).sub;have HV:=ac hv;have HRR:=ac hr;have HRO:=ac hR;have HT:=ac htab;obtain⟨res,hres⟩:∃ res,bj width (R.map Prod.snd) []=res:=⟨_,rfl⟩;rw[hres];have HRES:=ac hres;clear hres htab hv hr hR;have H:=ac h;clear h;go_enter Tryz.func44,Tryz.ntmps44;go_wp2_with fail;refine(kC (low:=false) H.out).mono ?_;rintro e w3 ⟨Wb,rfl,h3⟩;have H3:=ac h3;clear h3 H;go_wp2_with fail;refine(oM H3.out (fun w h=>HT.out w h.right)).mono ?_;rintro e w4 ⟨C,rfl,h4⟩;have H4:=ac h4;clear h4 H3;go_wp2_with fail;refine(HFT.out _).mono ?_;rintro e w2 ⟨rfl,rfl⟩;go_wp2_with fail
 go_loopw [18] (fun vi wr=>∃ (k:Nat) (acc:List Nat),k≤R.length∧vi= .int .i64 k∧acc.length≤130000*k∧bj width ((R.map Prod.snd).drop k) acc=res∧St w0 wr (bc C*(az Wb acc false*F))) (fun vi _=>R.length-(intOf vi).toNat)
 case atStart=>exact⟨0,[],by omega,rfl,by simp,HRES.out,H4.out⟩
 case round=>
  clear H4 HRES;obtain⟨k,acc,hk,rfl,hal,hall,hst⟩:=hrel
  by_cases hkn:k<R.length
  ·have hkl:(k:Int)<R.length:=by omega
   obtain⟨g,o,rfl,e1⟩:=(HV.out wr hst.right.right).at_ hkn;have hx:=ai hkn;rw[au,hx] at e1;simp only[cB] at e1;have hmem:=bo hkn;have hd:(R.map Prod.snd).drop k=R[k].2::(R.map Prod.snd).drop (k+1):=by
    rw[cC (by simpa using hkn),gs]
   rw[hd,bj] at hall;have hro:=HRO.out _ hmem;have hrd:Stb w0 F (fun w=>Reads w 1 R[k].1 R[k].2.length (R[k].2.map nv)):=fun w h=>HRR.out w h _ hmem
   clear hx hd hmem;obtain⟨⟨xv,xl⟩,hxx⟩:∃ x,R[k]=x:=⟨_,rfl⟩;rw[hxx] at e1 hall hro hrd;simp only at e1 hall hro hrd;clear hxx;obtain⟨ax,cx,rfl⟩:=(hrd wr hst.right.right).sub;have hbl:=oR hro hw;have HW:=ac (rL hst hrd hro.1 hro.2.1 h1 hw (by have:=hro.2.2;omega) (by omega));have hal2:=rM (acc++cE false (bY 0 xl width));have hal3:(acc++cE false (bY 0 xl width)).length=acc.length+(cE false (bY 0 xl width)).length:=ae;have hal4:(acc++cE false (bY 0 xl width)).length≤130000000+130000:=by omega
   have hal5:(dn (acc++cE false (bY 0 xl width))).length≤130000*(k+1):=by omega
   have HALL:=ac (⟨hall,hal5⟩:_∧_);clear hall hal2 hal3 hal5 hbl hro hrd hst;generalize acc++cE false (bY 0 xl width)=acc2 at*
   go_wp2_with fail;refine HW.out.mono ?_;rintro e w5 ⟨rfl,h5⟩;have HA:=ac (qL (h5.perm (af _ _ _)) (by omega));clear h5 HW;go_wp2_with fail;refine HA.out.mono ?_;rintro e w6 ⟨rfl,h6⟩;have H6:=ac (h6.perm (af _ _ _));clear h6 HA;go_wp2_with fail;exact⟨⟨k+1,dn acc2,by omega,by go_num,HALL.out.2,HALL.out.1,H6.out⟩,by simp [intOf];omega⟩
  ·obtain rfl:k=R.length:=by omega
   rw[iD (by simp),bj] at hall;have HRS:=ac hall;have HBY:=ac (hU (hst.perm (af _ _ _)));clear hst hall;go_wp2_with fail;refine HBY.out.mono ?_;rintro e w5 ⟨v5,rfl,h5⟩;obtain⟨a5,c5,rfl⟩:=h5.reads.sub;have H5:=ac (h5.perm (show _=az Wb acc false*(bc C*(own 5 1 (.slice a5 ((acc.length+7)/8) c5) ((acc.length+7)/8) ((aq false acc).map bv)*F)) by ac_rfl)).right.right;clear h5 HBY;go_wp2_with fail;go_ret2;rw[← HRS.out];exact⟨_,rfl,H5⟩
theorem D1 (w:World) (b:Bool):Calls Tryz.prog 104 #[.bool b] w fun e w'=>e= .returned (.string ⟨#[dg (cl b)]⟩)∧w'=w:=by
 cases b
 ·go_enter Tryz.func104,Tryz.ntmps104;go_wp2_with fail;go_ret;exact⟨rfl,rfl⟩
 ·go_enter Tryz.func104,Tryz.ntmps104;go_wp2_with fail;go_ret;exact⟨rfl,rfl⟩
theorem D3 {p:List Nat} {k x:Nat} (hk:k<p.length) (hx:p[k]=x):((⟨(tx p).toArray⟩:ByteArray).extract k (k+1)).toList=[dg x]:=by
 rw[ByteArray.extract_mk,pX,Lib.toList_data,cC (by simpa [tx] using hk)];simp [tx,hx]
theorem oy {x y:Nat} (hx:x≤1) (hy:y≤1) (h:dg x=dg y):x=y:=by
 have:=congrArg UInt8.toNat h;rw[jy hx,jy hy] at this;omega
theorem D4 {p:List Nat} {k x:Nat} (b:Bool) (hk:k<p.length) (hx:p[k]=x) (hx1:x≤1):(((⟨(tx p).toArray⟩:ByteArray).extract k (k+1)).toList==[dg (cl b)])=decide (x=cl b):=by
 rw[D3 hk hx]
 by_cases h:x=cl b
 ·rw[h];simp
 ·rw[decide_eq_false h];simp only[beq_eq_false_iff_ne,ne_eq,qc,and_true];exact fun e=>h (oy hx1 (vR b) e)
theorem rN {w0 w:World} {F:SProp} (h:St w0 w F) {p:List Nat} (hb:Bit p) (hl:p.length≤32768) {sb:ByteArray} (hsb:sb=⟨(tx p).toArray⟩):
  Calls Tryz.prog 58 #[.string sb] w fun e w'=>e= .returned (.string ⟨(tx (iL false 0 p)).toArray⟩)∧St w0 w' F:=by
 subst hsb;have hvx:(tx p).length=p.length:=by simp
 have HC:=ac (fun w b=>D1 w b);have HTL:=ac (fun(w:World) (h:St w0 w F) (n:Nat) (hn:n≤32768) (b:Bool)=>rG h n hn b (j:=(n:Int)) rfl);have HTN:=ac (fun(b:Bool) (n:Nat) (hn:n≤32768)=>jF b hn);obtain⟨res,hres⟩:∃ res,iL false 0 p=res:=⟨_,rfl⟩;rw[hres];have HRES:=ac hres;have HB:=ac hb;clear hres hb;have H:=ac h;clear h;go_enter Tryz.func58,Tryz.ntmps58;go_wp2_with fail
 go_loopw [3,4,5,6] (fun vs vb vn vi wr=>∃ (k n:Nat) (acc:List Nat) (b:Bool),vs= .string ⟨(tx acc).toArray⟩∧vb= .bool b∧vn= .int .i64 n∧vi= .int .i64 k∧k≤p.length+1∧n≤k∧acc.length≤300*k∧((k≤p.length∧acc++iL b n (p.drop k)=res)∨(k=p.length+1∧acc=res))∧St w0 wr F) (fun _ _ _ vi _=>p.length+1-(intOf vi).toNat)
 case atStart=>exact⟨0,0,[],false,rfl,rfl,rfl,rfl,by omega,by omega,by simp,.inl ⟨by omega,HRES.out⟩,H.out⟩
 case round=>
  clear H HRES;obtain⟨k,n,acc,b,rfl,rfl,rfl,rfl,hk,hnk,hal,hall,hst⟩:=hrel;have hla:(tx acc).length=acc.length:=by simp
  rcases hall with ⟨hkp,hall⟩ | ⟨rfl,rfl⟩
  ·by_cases hkn:k<p.length
   ·have hk2:(k:Int)<p.length:=by omega
    have hx:=ai hkn;rw[cC hkn,iL] at hall;have hx1:=HB.out p[k] (bo _);clear hx;obtain⟨x,hxx⟩:∃ x,p[k]=x:=⟨_,rfl⟩;rw[hxx] at hall hx1;have HX:=ac hxx;clear hxx;go_upto_region 5 with (fail)
    go_quiet ((go_at_call 104;exact Calls.quiet_of_same (HC.out _ _)));have HST:=ac (hst.drewN nq);clear hst;rw[D4 b hkn HX.out hx1];generalize wr.drewN nq=w3 at*
    by_cases hxc:x=cl b
    ·rw[if_pos hxc] at hall;have HALL:=ac hall;clear hall;rw[decide_eq_true hxc];clear hxc HX;go_wp2_with fail;exact⟨⟨k+1,n+1,acc,b,rfl,rfl,by go_num,by go_num,by omega,by omega,by omega,.inl ⟨by omega,HALL.out⟩,HST.out⟩,by simp [intOf];omega⟩
    ·rw[if_neg hxc,← List.append_assoc] at hall;have HALL:=ac hall;clear hall;rw[decide_eq_false hxc];have HT:=ac (HTL.out _ HST.out n (by omega) b);have hln:=HTN.out b n (by omega);have hlt:(tx (aM b n)).length=(aM b n).length:=by simp
     have HTX:=ac (cZ acc (aM b n));have hl3:(acc++aM b n).length=acc.length+(aM b n).length:=ae;have HL3:=ac (show(acc++aM b n).length≤300*(k+1) by omega);generalize acc++aM b n=acc2 at*
     generalize aM b n=tb at*
     clear hxc HX HTL HTN hl3 HST;go_wp2_with fail;refine HT.out.mono ?_;rintro e w4 ⟨rfl,h4⟩;have H4:=ac h4;clear h4 HT;go_wp2_with fail;refine⟨⟨k+1,1,acc2, !b,?_,rfl,rfl,by go_num,by omega,by omega,HL3.out,.inl ⟨by omega,HALL.out⟩,H4.out⟩,by simp [intOf];omega⟩;rw[HTX.out];exact congrArg Value.string (ByteArray.mk_append_mk _ _)
   ·obtain rfl:k=p.length:=by omega
    rw[iT,iL] at hall;have HALL:=ac hall;clear hall;go_upto_region 5 with (fail)
    go_quiet (fail);have HST:=ac (hst.drewN nq);clear hst;generalize wr.drewN nq=w3 at*
    have HT:=ac (HTL.out _ HST.out n (by omega) b);have hln:=HTN.out b n (by omega);have hlt:(tx (aM b n)).length=(aM b n).length:=by simp
    have HTX:=ac (cZ acc (aM b n));have hl3:(acc++aM b n).length=acc.length+(aM b n).length:=ae;have HL3:=ac (show(acc++aM b n).length≤300*(p.length+1) by omega);generalize acc++aM b n=acc2 at*
    generalize aM b n=tb at*
    clear HTL HTN hl3 HST;go_wp2_with fail;refine HT.out.mono ?_;rintro e w4 ⟨rfl,h4⟩;have H4:=ac h4;clear h4 HT;go_wp2_with fail;refine⟨⟨p.length+1,n,acc2,b,?_,rfl,rfl,by go_num,by omega,by omega,HL3.out,.inr ⟨rfl,HALL.out⟩,H4.out⟩,by simp [intOf]⟩;rw[HTX.out];exact congrArg Value.string (ByteArray.mk_append_mk _ _)
  ·have HST:=ac hst;clear hst;go_wp2_with fail;go_ret;exact⟨rfl,HST.out⟩
theorem rO {w0 w:World} {g c:Nat} {F:SProp} (h:St w0 w (own 9 1 (.slice (some ⟨g,0,none⟩) 10 c) 10 (aL.map aD)*F)) {i:Nat} (hi:i<10):w.cell? ⟨g,i,none⟩=some (.string ⟨(tx (aL.getD i [])).toArray⟩):=
 h.own_cell (by rw[au,List.getD_eq_getElem?_getD,ai (by rw[mM];exact hi)];rfl)
theorem wd {w0 w:World} {F:SProp} (h:St w0 w F) {s t:List Nat} (hs:Bit s) (ht:Bit t) (hst:t.length=s.length) (hl:s.length≤32768) {sb tb:ByteArray} (hsb:sb=⟨(tx s).toArray⟩) (htb:tb=⟨(tx t).toArray⟩):
  Calls Tryz.prog 60 #[.string sb,.string tb] w fun e w'=>e= .returned (.string ⟨(tx (db (ay s) (ay t) s.length (s.length+1) (-1) false)).toArray⟩)∧St w0 w' F:=by
 have hls:(tx s).length=s.length:=by simp
 have HC1:=ac (vU h hs (by omega) hsb);have HC2:=ac (fun(w:World) (G:SProp) (h:St w0 w G)=>vU h ht (by omega) htb);have HNR:=ac (fun(at':Int) (h:at'<s.length) (b:Bool)=>mP (at':=at') (toB:=b) (width:=s.length) (ay s) true (mR s) (mO s) h);have HNT:=ac (fun(at':Int) (h:at'<s.length) (b:Bool)=>mP (at':=at') (toB:=b) (width:=s.length) (ay t) true (mR t) (fun x hx=>by rw[← hst];exact mO t x hx) h);have hr1:=oP s;have hr2:=oP t;have HCR:=ac (fun(w:World) (v:Value) (hr:Reads w 1 v (ay s).length ((ay s).map nv)) (at':Int) (b:Bool)=>vX at' b s.length hr (by omega));have HCT:=ac (fun(w:World) (v:Value) (hr:Reads w 1 v (ay t).length ((ay t).map nv)) (at':Int) (b:Bool)=>vX at' b s.length hr (by omega));subst hsb;obtain⟨res,hres⟩:∃ res,db (ay s) (ay t) s.length (s.length+1) (-1) false=res:=⟨_,rfl⟩;rw[hres];have HRES:=ac hres;clear h hs ht hst hres htb;generalize ay s=row at*
 generalize ay t=top at*
 generalize s.length=width at*
 go_enter Tryz.func60,Tryz.ntmps60;go_wp2_with fail;refine HC1.out.mono ?_;rintro e w2 ⟨v2,rfl,h2⟩;have HC3:=ac (HC2.out _ _ h2);clear h2 HC1 HC2;go_wp2_with fail;refine HC3.out.mono ?_;rintro e w3 ⟨v3,rfl,h3⟩;obtain⟨a2,c2,rfl⟩:=h3.right.reads.sub;obtain⟨a3,c3,rfl⟩:=h3.reads.sub;obtain⟨G,hG⟩:∃ G,G=own 3 1 (.slice a3 top.length c3) top.length (top.map nv)*(own 3 1 (.slice a2 row.length c2) row.length (row.map nv)*F):=⟨_,rfl⟩;rw[← hG] at h3;have HG:=ac hG;clear hG;have HCR2:=ac (fun w (h:St w0 w G)=>HCR.out w (.slice a2 row.length c2) (by rw[HG.out] at h;exact h.right.reads));have HCT2:=ac (fun w (h:St w0 w G)=>HCT.out w (.slice a3 top.length c3) (by rw[HG.out] at h;exact h.reads));have HF:=ac (fun w (h:St w0 w G)=>(by rw[HG.out] at h;exact h.right.right:St w0 w F));have H:=ac h3;clear h3 HC3 HCR HCT HG;go_wp2_with fail
 go_loopg [8,9,10] (width+1) (fun g vs vb va wr=>∃ (at':Int) (b:Bool) (acc2:List Nat),vs= .string ⟨(tx acc2).toArray⟩∧vb= .bool b∧va= .int .i64 at'∧ -1≤at'∧at'≤width∧(width:Int)≤g+at'∧acc2.length+700*g≤700*(width+1)∧acc2++db row top width g at' b=res∧St w0 wr G)
 case atStart=>exact⟨-1,false,[],rfl,rfl,rfl,by omega,by omega,by omega,by simp,HRES.out,H.out⟩
 case round=>
  clear H HRES;obtain⟨at',b,acc2,rfl,rfl,rfl,ha1,ha2,hg,hacc,hall,hst⟩:=hrel;have hla:(tx acc2).length=acc2.length:=by simp
  have hac9:acc2.length≤30000000:=by omega
  by_cases hlt:at'<width
  ·obtain⟨g,rfl⟩:∃ g,gk=g+1:=⟨gk-1,by omega⟩;rw[db,if_pos hlt] at hall;simp only at hall;have nr:=HNR.out at' hlt (!b);have nt:=HNT.out at' hlt (!b);have HC1:=ac (HCR2.out _ hst at' (!b));have HC2:=ac (fun w hw=>HCT2.out w hw at' (!b));generalize cU true at' (!b) width row=a at*
   generalize cU true at' (!b) width top=c at*
   obtain⟨a1,a2⟩:=a;obtain⟨c1,c2⟩:=c;simp only at hall nr nt HC1 HC2;have HB:=ac (⟨ha1,ha2,hg,hacc,nr,nt⟩:_∧_∧_∧_∧_∧_);have HALL:=ac hall;clear ha1 ha2 hg hacc nr nt hall HNR HNT HCR2 HCT2;have HST:=ac hst;clear hst;go_wp2_with fail;refine HC1.out.mono ?_;rintro e w3 ⟨rfl,n3,rfl⟩;have h3:=HST.out.drewN n3;have HC3:=ac (HC2.out _ h3);have H3:=ac h3;clear h3 HC1 HC2 HST;generalize wr.drewN n3=W3 at*
   go_wp2_with fail;refine HC3.out.mono ?_;rintro e w4 ⟨rfl,n4,rfl⟩;have h4:=H3.out.drewN n4;clear H3 HC3;generalize W3.drewN n4=W4 at*
   have HMD:=ac (vE h4)
   by_cases hp:c2<a1
   ·have hpi:(c2:Int)<a1:=by omega
    have hall:=HALL.out;rw[if_pos hp,← List.append_assoc] at hall;have HALL2:=ac hall;clear hall HALL h4;have HTX:=ac (cZ acc2 (aL.getD 8 []));have hml:=jG 8;have hlm:(tx (aL.getD 8 [])).length=(aL.getD 8 []).length:=by simp
    go_wp2_with fail;refine HMD.out.mono ?_;rintro e w5 ⟨v5,rfl,h5⟩;obtain⟨a5,c5,rfl⟩:=h5.reads.sub;obtain⟨g5,rfl⟩:=bR h5 (by omega);have y8:=rO h5 (i:=8) (by omega);have H5:=ac h5.right;clear h5 HMD;generalize aL.getD 8 []=m8 at*
    go_wp2_with fail;obtain⟨e1,e2,e3,e4,e5,e6⟩:=HB.out
    go_roundg g
    case measure=>omega
    case rel=>
     refine⟨c2,b,acc2++m8,?_,rfl,rfl,by omega,by omega,by omega,by rw[ae];omega,HALL2.out,H5.out⟩;rw[HTX.out];exact congrArg Value.string (ByteArray.mk_append_mk _ _)
   ·have hpi:¬ (c2:Int)<a1:=by omega
    have hall:=HALL.out;rw[if_neg hp] at hall;clear HALL;obtain⟨e1,e2,e3,e4,⟨nr1,nr2,nr3,_⟩,⟨nt1,nt2,nt3,_⟩⟩:=HB.out;have hba:a1≤32768:=by omega
    have hbc:c1≤32768:=by omega
    by_cases hv:a1≤c1+3∧c1≤a1+3
    ·rw[if_pos hv,← List.append_assoc] at hall;have hv1:(a1:Int)-c1≤3:=by omega
     have hv2:(c1:Int)-a1≤3:=by omega
     obtain⟨i,hi⟩:∃ i,i=a1+3-c1:=⟨_,rfl⟩;rw[← hi] at hall;have hi2:i<10:=by omega
     have hii:(a1:Int)-c1+3=(i:Nat):=by omega
     have hml:=jG i;have hyi:=fun {g c} {F:SProp} {w} h=>rO (w0:=w0) (w:=w) (g:=g) (c:=c) (F:=F) h hi2
     generalize aL.getD i []=mi at*
     have HTX:=ac (cZ acc2 mi);have hlm:(tx mi).length=mi.length:=by simp
     have HALL2:=ac hall;clear hall h4 hv hi nr1 nr2 nr3 nt1 nt2 nt3 e1 e2 e3 e4;have hii3:(i:Int)<10:=by omega
     go_wp2_with fail;refine HMD.out.mono ?_;rintro e w5 ⟨v5,rfl,h5⟩;obtain⟨a5,c5,rfl⟩:=h5.reads.sub;obtain⟨g5,rfl⟩:=bR h5 (by omega);have y8:=hyi h5;have H5:=ac h5.right;clear h5 HMD hyi;go_wp2_with fail;obtain⟨e1,e2,e3,e4,⟨nr1,nr2,nr3,_⟩,⟨nt1,nt2,nt3,_⟩⟩:=HB.out
     go_roundg g
     case measure=>omega
     case rel=>
      refine⟨a1, !b,acc2++mi,?_,rfl,rfl,by omega,by omega,by omega,by rw[ae];omega,HALL2.out,H5.out⟩;rw[HTX.out];exact congrArg Value.string (ByteArray.mk_append_mk _ _)
    ·rw[if_neg hv] at hall;have cV:¬ (a1:Int)-c1≤3∨((a1:Int)-c1≤3∧¬ (c1:Int)-a1≤3):=by omega
     simp only[← List.append_assoc] at hall;obtain⟨q,hq⟩:∃ q:Nat,q=(max at' 0).toNat:=⟨_,rfl⟩;rw[← hq] at hall;have hmx:max at' 0=(q:Int):=by omega
     have hq1:IntKind.i64.wrap ((a1:Int)-(q:Nat))=((a1-q:Nat):Int):=by rw[IntWalk.i64_in _ (by omega)];omega
     have hq2:IntKind.i64.wrap ((a2:Int)-a1)=((a2-a1:Nat):Int):=by rw[IntWalk.i64_in _ (by omega)];omega
     have hq3:a1-q≤32768:=by omega
     have hq4:a2-a1≤32768:=by omega
     have hml:=jG 7;have hyi:=fun {g c} {F:SProp} {w} h=>rO (w0:=w0) (w:=w) (g:=g) (c:=c) (F:=F) h (show 7<10 by omega)
     have hn1:=jF b hq3;have hn2:=jF (!b) hq4;have hl1:(tx (aL.getD 7 [])).length=(aL.getD 7 []).length:=by simp
     have hl2:(tx (aM b (a1-q))).length=(aM b (a1-q)).length:=by simp
     have hl3:(tx (aM (!b) (a2-a1))).length=(aM (!b) (a2-a1)).length:=by simp
     have HT1:=ac (fun(w:World) (G:SProp) (h:St w0 w G)=>rG h (a1-q) hq3 b (j:=((a1-q:Nat):Int)) rfl);have HT2:=ac (fun(w:World) (G:SProp) (h:St w0 w G)=>rG h (a2-a1) hq4 (!b) (j:=((a2-a1:Nat):Int)) rfl);have hlen:(acc2++aL.getD 7 []++aM b (a1-q)++aM (!b) (a2-a1)).length≤acc2.length+7+300+300:=by simp only[ae];omega
     have htx:tx (acc2++aL.getD 7 []++aM b (a1-q)++aM (!b) (a2-a1))=tx acc2++tx (aL.getD 7 [])++tx (aM b (a1-q))++tx (aM (!b) (a2-a1)):=by simp only[cZ]
     have HE:=ac (⟨hlen,hall,hq1,hq2,hmx⟩:_∧_∧_∧_∧_);have HTX:=ac htx;clear hlen hall hq hv hq3 hq4 hq1 hq2 hmx htx HMD;generalize acc2++aL.getD 7 []++aM b (a1-q)++aM (!b) (a2-a1)=acc3 at*
     generalize aM b (a1-q)=t1 at*
     generalize aM (!b) (a2-a1)=t2 at*
     generalize aL.getD 7 []=m7 at*
     generalize a1-q=d1 at*
     generalize a2-a1=d2 at*
     clear nr1 nr2 nr3 nt1 nt2 nt3 e1 e2 e3 e4;have H4:=ac h4;clear h4;have hlx1:(tx m7).length≤7:=by omega
     have hlx2:(tx t1).length≤300:=by omega
     have hlx3:(tx t2).length≤300:=by omega
     clear hlx1 hlx2 hlx3 hp;go_upto_region 11 with (fail)
     go_cut [60] from 21 to 92 (fun v wx=>v= .bool false∧wx=W4)
     case first=>
      rcases cV with cV | ⟨cV,hd2⟩
      ·go_wp2_with fail
       go_meet
       exact⟨rfl,rfl⟩
      ·go_wp2_with fail
       go_meet
       exact⟨by rw[decide_eq_false (by omega)],rfl⟩
     case rest=>
      obtain⟨rfl,rfl⟩:=hcut;go_upto_region 15 with (fail)
      clear cV hba hbc hpi;obtain⟨_,_,hq1,hq2,hmx⟩:=HE.out
      go_cut [8] from 21 to 92 (fun v wx=>v= .string ⟨(tx acc3).toArray⟩∧St w0 wx G)
      case first=>
       have H5:=ac H4.out.drew;clear H4;have H4:=H5;clear H5;go_region_with (first
        | (go_at_call 108;refine(vE H4.out).mono ?_;rintro e w5 ⟨v5,rfl,h5⟩;obtain⟨a5,c5,rfl⟩:=h5.reads.sub;obtain⟨g5,rfl⟩:=bR h5 (by omega);have y8:=hyi h5;clear H4;have H4:=ac h5;clear h5)
        | (go_at_call_of 105 (Value.int IntKind.i64 (d1:Int));refine(HT1.out _ _ H4.out).mono ?_;rintro e w6 ⟨rfl,h6⟩;(try have y8:=hyi h6);clear H4;have H4:=ac h6;clear h6)
        | (go_at_call_of 105 (Value.int IntKind.i64 (d2:Int));refine(HT2.out _ _ H4.out).mono ?_;rintro e w6 ⟨rfl,h6⟩;(try have y8:=hyi h6);clear H4;have H4:=ac h6;clear h6))
       all_goals
        go_wp2_with fail
        go_meet
        refine⟨?_,H4.out.right⟩;rw[HTX.out];simp only[← ByteArray.mk_append_mk,List.append_assoc,ByteArray.append_assoc]
      case rest=>
       obtain⟨rfl,hst⟩:=hcut;have HST:=ac hst;clear hst hq1 hq2 hmx;go_wp2_with fail;obtain⟨e1,e2,e3,e4,⟨nr1,nr2,nr3,_⟩,⟨nt1,nt2,nt3,_⟩⟩:=HB.out;obtain⟨hlen,hall,_⟩:=HE.out
       go_roundg g
       case measure=>omega
       case rel=>exact⟨a2,b,acc3,rfl,rfl,rfl,by omega,by omega,by omega,by omega,hall,HST.out⟩
  ·have hall':acc2=res:=by rw[← hall,wa _ _ hlt,bE]
   subst hall';have HST:=ac (HF.out _ hst);clear hst hacc hall;go_wp2_with fail;go_ret;exact⟨rfl,HST.out⟩
end Go.Proofs.YtboflbdniogcdaaGreatDoor
