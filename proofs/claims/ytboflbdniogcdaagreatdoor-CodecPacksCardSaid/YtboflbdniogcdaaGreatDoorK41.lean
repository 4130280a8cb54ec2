/-
  Parts of a proof.
-/
import Derived.Deep.CutRange
import Derived.Test.YtboflbdniogcdaaGreatDoorK19
set_option linter.unusedVariables false
set_option linter.unusedSimpArgs false
set_option maxRecDepth 100000
set_option maxHeartbeats 100000000
namespace Go.Mz
open Go.RowKit
structure Pv where
 wt:Nat
 a:Option Addr
 n:Nat
 c:Nat
 deriving Inhabited
def Pv.of (p:Pv):Value:= .slice p.a p.n p.c
def Pv.val (p:Pv):Value:= .agg #[.int .i64 (p.wt:Int),.slice p.a p.n p.c]
def lJ (p:Pv):List Value:=[.int .i64 (p.wt:Int),.slice p.a p.n p.c]
def cQ (l:List Pv):List Value:=l.flatMap lJ
theorem pG (p:Pv):(lJ p).length=2:=rfl
theorem sy (l m:List Pv):cQ (l++m)=cQ l++cQ m:=by simp [cQ]
theorem xS {l:List Pv} {k:Nat} {p:Pv} (h:l[k]? =some p):(cQ l)[k*2]? =some (.int .i64 (p.wt:Int))∧(cQ l)[k*2+1]? =some (.slice p.a p.n p.c):=
 ⟨by have:=jD lJ 2 pG l k p h 0 (by omega);exact this,by have:=jD lJ 2 pG l k p h 1 (by omega);exact this⟩
theorem pH {l:List Pv} {k:Nat} {x:Pv} (h:l[k]? =some x) (y:Pv):((cQ l).set (k*2) (.int .i64 (y.wt:Int))).set (k*2+1) (.slice y.a y.n y.c)=cQ (l.set k y):=by
 have e1:(cQ l).set (k*2) (.int .i64 (y.wt:Int))=cQ (l.set k ⟨y.wt,x.a,x.n,x.c⟩):=mD lJ 2 pG l k x _ h 0 (by omega) _ rfl;have hk:k<l.length:=(dJ.1 h).1;rw[e1];have e2:(l.set k ⟨y.wt,x.a,x.n,x.c⟩)[k]? =some ⟨y.wt,x.a,x.n,x.c⟩:=by simp [hk]
 have:=mD lJ 2 pG _ k _ y e2 1 (by omega) (.slice y.a y.n y.c) rfl;rw[List.set_set] at this;exact this
def SrtP (l:List Pv):Prop:=l.Pairwise fun x y=>x.wt≤y.wt
def fw (w:Nat) (l:List Pv):List Pv:=l.filter fun z=>z.wt==w
theorem ix (w:Nat) (l m:List Pv):fw w (l++m)=fw w l++fw w m:=jx ..
theorem sB {w:Nat} {l:List Pv} (h:∀ x∈l,x.wt≠w):fw w l=[]:=List.filter_eq_nil_iff.2 fun x hx=>by simpa using h x hx
structure Ss (l l':List Pv):Prop where
 perm:l'.Perm l
 srt:SrtP l'
 flt:∀ w,fw w l'=fw w l
theorem Ss.len {l l':List Pv} (h:Ss l l'):l'.length=l.length:=h.perm.length_eq
theorem Ss.mem {l l':List Pv} (h:Ss l l') (x:Pv):x∈l'↔x∈l:=h.perm.mem_iff
theorem Ss.nil:Ss [] []:=⟨mf _,List.Pairwise.nil,fun _=>rfl⟩
theorem Ss.self {l:List Pv} (h:SrtP l):Ss l l:=⟨mf _,h,fun _=>rfl⟩
theorem Ss.one (x:Pv):Ss [x] [x]:=Ss.self (zo _ _)
theorem fl {l m:List Pv}:SrtP (l++m)↔SrtP l∧SrtP m∧∀ x∈l,∀ y∈m,x.wt≤y.wt:=JP
theorem Ss.ins {l S1 S2:List Pv} {x:Pv} (h:Ss l (S1++S2)) (h1:∀ s∈S1,s.wt≤x.wt) (h2:∀ s∈S2,x.wt<s.wt):Ss (l++[x]) (S1++x::S2):=by
 obtain⟨hp,hs,hf⟩:=h;obtain⟨s1,s2,s3⟩:=fl.1 hs;refine⟨?_,fl.2 ⟨s1,ed.2 ⟨fun y hy=>s9 (h2 y hy),s2⟩,fun a ha b hb=> ?_⟩,fun w=> ?_⟩
 ·exact List.perm_middle.trans ((List.Perm.cons x hp).trans (JU (l₁:=[x])))
 ·rcases List.mem_cons.1 hb with rfl | hb
  ·exact h1 a ha
  ·exact s3 a ha b hb
 ·rw[ix,ix,← hf w,ix];rw[show x::S2=[x]++S2 from rfl,ix]
  by_cases hx:x.wt=w
  ·have:fw w S2=[]:=sB fun s hs=>by have:=h2 s hs;omega
   rw[this];simp
  ·have:fw w [x]=[]:=sB fun s hs=>by rw[List.mem_singleton] at hs;subst hs;exact hx
   rw[this];simp
theorem Ss.merge {A1 A2 B1 B2 L R:List Pv} (hl:Ss (A1++B1) L) (hr:Ss (A2++B2) R) (hA:SrtP (A1++A2)) (hB:SrtP (B1++B2))
  (h1:∀ x∈A1,∀ y∈B2,x.wt≤y.wt) (h2:∀ y∈B1,∀ x∈A2,y.wt<x.wt):Ss (A1++A2++(B1++B2)) (L++R):=by
 obtain⟨a1,a2,a3⟩:=fl.1 hA;obtain⟨b1,b2,b3⟩:=fl.1 hB;refine⟨?_,fl.2 ⟨hl.srt,hr.srt,fun x hx y hy=> ?_⟩,fun w=> ?_⟩
 ·refine(List.Perm.append hl.perm hr.perm).trans ?_;rw[List.append_assoc,List.append_assoc];refine List.Perm.append_left _ ?_;rw[← List.append_assoc,← List.append_assoc];exact List.Perm.append_right _ JU
 ·rw[hl.mem,cA] at hx;rw[hr.mem,cA] at hy
  rcases hx with hx | hx <;> rcases hy with hy | hy
  ·exact a3 x hx y hy
  ·exact h1 x hx y hy
  ·exact s9 (h2 x hx y hy)
  ·exact b3 x hx y hy
 ·rw[ix,hl.flt,hr.flt,ix,ix,ix,ix,ix]
  by_cases hb:fw w B1=[]
  ·rw[hb];simp
  ·have:fw w A2=[]:=sB fun x hx e=>by
    obtain⟨y,hy⟩:=List.exists_mem_of_ne_nil _ hb;have hm:=jw.1 hy;have:=h2 y hm.1 x hx;have:=hm.2;simp at this;omega
   rw[this];simp
theorem Ss.trans {l m k:List Pv} (h:Ss l m) (h2:Ss m k):Ss l k:=⟨h2.perm.trans h.perm,h2.srt,fun w=>(h2.flt w).trans (h.flt w)⟩
theorem Ss.two {l m l' m' k:List Pv} (h1:Ss l l') (h2:Ss m m') (h:Ss (l'++m') k):Ss (l++m) k:=
 ⟨h.perm.trans (List.Perm.append h1.perm h2.perm),h.srt,fun w=>by rw[h.flt,ix,h1.flt,h2.flt,ix]⟩
theorem sC (P R:List Pv) (x y:Pv):(P++x::R).set P.length y=P++y::R:=by simp
theorem fU (P R:List Pv) (x:Pv) {k:Nat} (hk:k=P.length):(P++x::R)[k]? =some x:=by subst hk;simp
theorem xT (P M R:List Pv) (x y:Pv) {i k:Nat} (hi:i=P.length) (hk:k=P.length+1+M.length):
  ((P++x::(M++y::R)).set i y).set k x=P++y::(M++x::R):=by
 subst hi hk;rw[sC,show P++y::(M++y::R)=(P++y::M)++y::R by simp,show P.length+1+M.length=(P++y::M).length by simp;omega,sC];simp
theorem GM (P M R:List Pv) (x y:Pv) {i k:Nat} (hi:i=P.length) (hk:k=P.length+1+M.length):
  ((P++x::(M++y::R)).set k x).set i y=P++y::(M++x::R):=by
 rw[List.set_comm _ _ (by omega),xT P M R x y hi hk]
theorem xU {Bm:List Pv} (h:0<Bm.length):∃ C1 c C2,Bm=C1++c::C2∧C1.length=Bm.length/2:=by
 have hl:Bm.length/2<Bm.length:=by omega
 refine⟨Bm.take (Bm.length/2),Bm[Bm.length/2],Bm.drop (Bm.length/2+1),?_,by rw[aJ];omega⟩;rw[← cC hl,eQ]
end Go.Mz
namespace Go.Proofs.YtboflbdniogcdaaGreatDoor
open Go.RowKit Go.Mz
theorem pI:ElemT Tryz.prog 293 295 2 32 (.agg #[.int .i64 0,.slice none 0 0]):=
 ⟨Tryz.underlying293,info_parts (by kernel_rfl),rfl,by decide⟩
def aA (v:Value) (l:List Pv):SProp:=own 295 2 v l.length (cQ l)
theorem fV {w0 w:World} {g n cap:Nat} {l:List Pv} {F:SProp} (h:St w0 w (aA (.slice (some ⟨g,0,none⟩) n cap) l*F)) (hn:n=l.length) {k:Nat} {p:Pv} (hk:l[k]? =some p):
  w.cell? ⟨g,k*2,none⟩=some (.int .i64 (p.wt:Int))∧w.cell? ⟨g,k*2+1,none⟩=some (.slice p.a p.n p.c):=by
 subst hn;obtain⟨h1,h2⟩:=xS hk;exact⟨St.own_cellS h h1,St.own_cellS h h2⟩
theorem pJ {w0 w:World} {g n cap:Nat} {l:List Pv} {F:SProp} (h:St w0 w (aA (.slice (some ⟨g,0,none⟩) n cap) l*F)) (hn:n=l.length) (i:Nat):w.frozen? ⟨g,i,none⟩=false:=by
 subst hn;exact St.own_free h i
theorem xV {w0 w:World} {g n cap:Nat} {P M R:List Pv} {x y:Pv} {F:SProp} (h:St w0 w (aA (.slice (some ⟨g,0,none⟩) n cap) (P++x::(M++y::R))*F)) (hn:n=(P++x::(M++y::R)).length) {i k:Nat} (hi:i=P.length) (hk:k=P.length+1+M.length):
  St w0 ((((w.setCell ⟨g,i*2,none⟩ (.int .i64 (y.wt:Int))).setCell ⟨g,i*2+1,none⟩ (.slice y.a y.n y.c)).setCell ⟨g,k*2,none⟩ (.int .i64 (x.wt:Int))).setCell ⟨g,k*2+1,none⟩ (.slice x.a x.n x.c))
   (aA (.slice (some ⟨g,0,none⟩) n cap) (P++y::(M++x::R))*F):=by
 subst hn;have h1:=(((St.own_setS h (i*2) (.int .i64 (y.wt:Int))).own_setS (i*2+1) (.slice y.a y.n y.c)).own_setS (k*2) (.int .i64 (x.wt:Int))).own_setS (k*2+1) (.slice x.a x.n x.c);have e0:(P++x::(M++y::R))[i]? =some x:=fU _ _ _ hi;have e1:((P++x::(M++y::R)).set i y)[k]? =some y:=by
  subst hi;rw[sC,show P++y::(M++y::R)=(P++y::M)++y::R by simp];exact fU _ _ _ (by simp;omega)
 rw[pH e0,pH e1,xT P M R x y hi hk] at h1;have hl:(P++x::(M++y::R)).length=(P++y::(M++x::R)).length:=by simp
 rw[hl] at h1 ⊢;exact h1
theorem xW {w0 w:World} {g n cap:Nat} {P M R:List Pv} {x y:Pv} {F:SProp} (h:St w0 w (aA (.slice (some ⟨g,0,none⟩) n cap) (P++x::(M++y::R))*F)) (hn:n=(P++x::(M++y::R)).length) {i k:Nat} (hi:i=P.length) (hk:k=P.length+1+M.length):
  St w0 ((((w.setCell ⟨g,k*2,none⟩ (.int .i64 (x.wt:Int))).setCell ⟨g,k*2+1,none⟩ (.slice x.a x.n x.c)).setCell ⟨g,i*2,none⟩ (.int .i64 (y.wt:Int))).setCell ⟨g,i*2+1,none⟩ (.slice y.a y.n y.c))
   (aA (.slice (some ⟨g,0,none⟩) n cap) (P++y::(M++x::R))*F):=by
 subst hn;have h1:=(((St.own_setS h (k*2) (.int .i64 (x.wt:Int))).own_setS (k*2+1) (.slice x.a x.n x.c)).own_setS (i*2) (.int .i64 (y.wt:Int))).own_setS (i*2+1) (.slice y.a y.n y.c);have e1:(P++x::(M++y::R))[k]? =some y:=by
  rw[show P++x::(M++y::R)=(P++x::M)++y::R by simp];exact fU _ _ _ (by simp;omega)
 have e0:((P++x::(M++y::R)).set k x)[i]? =some x:=by
  rw[ju (by omega)];exact fU _ _ _ hi
 rw[pH e1,pH e0,GM P M R x y hi hk] at h1;have hl:(P++x::(M++y::R)).length=(P++y::(M++x::R)).length:=by simp
 rw[hl] at h1 ⊢;exact h1
theorem sD {w0 w:World} {F:SProp} (cv:Value) {g n cap:Nat} (P X M Y R:List Pv) (hn:n=(P++(X++(M++(Y++R)))).length) (hXY:X.length=Y.length) (hn6:n≤1000000)
  (h:St w0 w (aA (.slice (some ⟨g,0,none⟩) n cap) (P++(X++(M++(Y++R))))*F)) {ia ib im:Int} (ha:ia=P.length) (hb:ib=(P.length+X.length+M.length:Nat)) (hm:im=X.length):
  Calls Tryz.prog 235 #[.slice (some ⟨g,0,none⟩) n cap,.int .i64 ia,.int .i64 ib,.int .i64 im,cv] w fun e w'=>e= .returned (.tuple #[])∧
   St w0 w' (aA (.slice (some ⟨g,0,none⟩) n cap) (P++(Y++(M++(X++R))))*F):=by
 subst ha hb hm;have hn0:=hn;simp only[ae] at hn;generalize hpa:P.length=pa at*
 generalize hxa:X.length=xa at*
 generalize hma:M.length=ma at*
 have HN:=ac hn0;have HPA:=ac hpa;have HXA:=ac hxa;have HMA:=ac hma;have HYA:=ac hXY;clear hn0 hpa hxa hma;have H:=ac h;clear h;go_enter Tryz.func235,Tryz.ntmps235;go_wp2_with fail
 go_loopw [10] (fun vi wr=>∃ k:Nat,k≤xa∧vi= .int .i64 k∧St w0 wr (aA (.slice (some ⟨g,0,none⟩) n cap) (P++(Y.take k++(X.drop k++(M++(X.take k++(Y.drop k++R))))))*F)) (fun vi _=>xa-(intOf vi).toNat)
 case atStart=>exact⟨0,by omega,rfl,by simpa using H.out⟩
 case round=>
  clear H;obtain⟨k,hk,rfl,hst⟩:=hrel
  by_cases hkn:k<xa
  ·obtain⟨x,hx⟩:∃ x,X.drop k=x::X.drop (k+1):=⟨_,cC (by rw[HXA.out];exact hkn)⟩;obtain⟨y,hy⟩:∃ y,Y.drop k=y::Y.drop (k+1):=⟨_,cC (by rw[← HYA.out];exact hkn)⟩;have e:P++(Y.take k++(X.drop k++(M++(X.take k++(Y.drop k++R)))))=(P++Y.take k)++x::((X.drop (k+1)++(M++X.take k))++y::(Y.drop (k+1)++R)):=by rw[hx,hy];simp
   have e':(P++Y.take k)++y::((X.drop (k+1)++(M++X.take k))++x::(Y.drop (k+1)++R))=P++(Y.take (k+1)++(X.drop (k+1)++(M++(X.take (k+1)++(Y.drop (k+1)++R))))):=by
    have a1:Y.take (k+1)=Y.take k++[y]:=by rw[p7,hy];simp
    have a2:X.take (k+1)=X.take k++[x]:=by rw[p7,hx];simp
    rw[a1,a2];simp
   rw[e] at hst;have E':=ac e';have l1:pa+k=(P++Y.take k).length:=by rw[ae,aJ,HPA.out,← HYA.out];omega
   have l2:pa+xa+ma+k=(P++Y.take k).length+1+(X.drop (k+1)++(M++X.take k)).length:=by
    rw[← l1];simp only[ae,bH,aJ,HXA.out,HMA.out];omega
   have l3:n=((P++Y.take k)++x::((X.drop (k+1)++(M++X.take k))++y::(Y.drop (k+1)++R))).length:=by
    rw[← e,HN.out];simp only[ae,bH,aJ,HXA.out,HMA.out,← HYA.out];omega
   clear e e' hx hy;obtain⟨c1,c2⟩:=fV hst l3 (k:=pa+k) (fU _ _ _ l1);obtain⟨d1,d2⟩:=fV hst l3 (k:=pa+xa+ma+k) (by rw[show ∀ A B:List Pv,A++x::(B++y::(Y.drop (k+1)++R))=(A++x::B)++y::(Y.drop (k+1)++R) by simp];exact fU _ _ _ (by rw[l2];simp;omega));have fr:=pJ hst l3;have hne:(pa+k)*2≠(pa+xa+ma+k)*2:=by omega
   have HSW:=ac (xV hst l3 l1 l2);have s1:(pa:Int)+k=((pa+k:Nat):Int):=by omega
   have s2:((pa+xa+ma:Nat):Int)+k=((pa+xa+ma+k:Nat):Int):=by omega
   have b1:pa+k<n:=by omega
   have b2:pa+xa+ma+k<n:=by omega
   clear l1 l2 l3 hst HN HPA HXA HMA HYA hn hXY;generalize pa+k=i at*
   generalize pa+xa+ma+k=i2 at*
   generalize pa+xa+ma=pb at*
   go_upto_region 3 with (fail)
   go_region
   go_wp2_with fail;exact⟨⟨k+1,by omega,by go_num,by rw[← E'.out];exact HSW.out.drew⟩,by simp [intOf];omega⟩
  ·obtain rfl:k=xa:=by omega
   have HST:=ac hst;go_wp2_with fail
   go_end0
   refine⟨rfl,?_⟩;have:=HST.out;rw[bU (by omega),bU (by rw[HXA.out];omega),iD (by rw[HXA.out];omega),iD (by omega)] at this;simpa using this
theorem GN {w0 w:World} {F:SProp} (cv:Value) {g n cap:Nat} (P A B R:List Pv) (hn:n=(P++(A++(B++R))).length) (hA:0<A.length) (hB:0<B.length) (hn6:n≤1000000)
  (h:St w0 w (aA (.slice (some ⟨g,0,none⟩) n cap) (P++(A++(B++R)))*F)) {ia im ib:Int} (ha:ia=P.length) (hm:im=(P.length+A.length:Nat)) (hb:ib=(P.length+A.length+B.length:Nat)):
  Calls Tryz.prog 234 #[.slice (some ⟨g,0,none⟩) n cap,.int .i64 ia,.int .i64 im,.int .i64 ib,cv] w fun e w'=>e= .returned (.tuple #[])∧
   St w0 w' (aA (.slice (some ⟨g,0,none⟩) n cap) (P++(B++(A++R)))*F):=by
 subst ha hb hm;have hn0:=hn;simp only[ae] at hn;obtain⟨mid,hmid⟩:∃ mid,P.length+A.length=mid:=⟨_,rfl⟩;obtain⟨bb,hbb⟩:∃ bb,mid+B.length=bb:=⟨_,rfl⟩;obtain⟨pa,hpa⟩:∃ pa,P.length=pa:=⟨_,rfl⟩;obtain⟨la,hla⟩:∃ la,A.length=la:=⟨_,rfl⟩;obtain⟨lb,hlb⟩:∃ lb,B.length=lb:=⟨_,rfl⟩;rw[hmid,hbb];rw[hla] at hA;rw[hlb] at hB;have q1:pa+la=mid:=by omega
 have q2:mid+lb=bb:=by omega
 have q3:bb≤n:=by omega
 have HN:=ac hn0;have HPA:=ac hpa;have HLA:=ac hla;have HLB:=ac hlb;have i1:(mid:Int)-pa=la:=by omega
 have i2:(bb:Int)-mid=lb:=by omega
 rw[hpa];clear hn0 hmid hbb hpa hla hlb hn;have H:=ac h;clear h;go_enter Tryz.func234,Tryz.ntmps234;go_wp2_with fail
 go_loopw [10,11] (fun vi vj wr=>∃ Q X Y Z:List Pv,vi= .int .i64 X.length∧vj= .int .i64 Y.length∧0<X.length∧0<Y.length∧P.length+Q.length+X.length=mid∧B++A=Q++(Y++(X++Z))∧
  St w0 wr (aA (.slice (some ⟨g,0,none⟩) n cap) (P++(Q++(X++(Y++(Z++R)))))*F)) (fun vi vj _=>(intOf vi).toNat+(intOf vj).toNat)
 case atStart=>
  refine⟨[],A,B,[],by rw[HLA.out],by rw[HLB.out],by rw[HLA.out];exact hA,by rw[HLB.out];exact hB,by rw[HPA.out,HLA.out,bD];omega,by simp,by simpa using H.out⟩
 case round=>
  clear H;obtain⟨Q,X,Y,Z,rfl,rfl,hx0,hy0,hmq,hBA,hst⟩:=hrel;have hlen:=congrArg List.length hBA;simp only[ae,HLA.out,HLB.out] at hlen;have HBA:=ac hBA;have hN:n=P.length+(Q.length+(X.length+(Y.length+(Z.length+R.length)))):=by rw[HN.out];simp only[ae,HLA.out,HLB.out];omega
  rw[HPA.out] at hN hmq;have HST:=ac hst;clear hst hBA i1 i2
  by_cases hxy:X.length=Y.length
  ·have HS:∀ W,St w0 W (aA (.slice (some ⟨g,0,none⟩) n cap) (P++(Q++(X++(Y++(Z++R)))))*F)→∀ ia ib im:Int,ia=(P.length+Q.length:Nat)→ib=mid→im=X.length→Calls Tryz.prog 235 #[.slice (some ⟨g,0,none⟩) n cap,.int .i64 ia,.int .i64 ib,.int .i64 im,cv] W fun e w'=>e= .returned (.tuple #[])∧St w0 w' (aA (.slice (some ⟨g,0,none⟩) n cap) (P++(Q++(Y++(X++(Z++R)))))*F):=fun W hW ia ib im h1 h2 h3=>by
    have:=sD cv (P++Q) X [] Y (Z++R) (w0:=w0) (w:=W) (F:=F) (g:=g) (n:=n) (cap:=cap) (ia:=ia) (ib:=ib) (im:=im) (by rw[hN];simp only[ae,bD,HPA.out];omega) hxy hn6 (by simpa using hW) (by rw[h1,ae]) (by rw[h2,ae,bD,HPA.out];omega) h3;simpa using this
   have HSW:=ac HS;clear HS;have j1:(mid:Int)-X.length=((pa+Q.length:Nat):Int):=by omega
   have hxyi:((X.length:Int) != Y.length)=false:=by rw[hxy];simp
   have hnm:mid≤1000000:=by omega
   have HXY:=ac hxy;have hxi:(X.length:Int)≤mid:=by omega
   clear hmq hlen hN hxy;generalize X.length=xl at*
   generalize Y.length=yl at*
   go_wp2_with (go_at_call 235;refine(HSW.out _ HST.out _ _ _ (by rw[HPA.out];omega) rfl rfl).mono ?_;rintro e w1 ⟨rfl,h1⟩;have H1:=ac h1;clear h1)
   go_end0
   refine⟨rfl,?_⟩;have:=H1.out;rw[show P++(B++(A++R))=P++(Q++(Y++(X++(Z++R)))) by rw[← List.append_assoc B A R,HBA.out];simp];exact this
  ·rcases cf Y.length X.length with hgt | hgt
   ·obtain⟨X1,X2,rfl,hX1⟩:∃ X1 X2,X=X1++X2∧X1.length=Y.length:=⟨X.take Y.length,X.drop Y.length,(eQ _ _).symm,by rw[aJ];omega⟩;have HS:∀ W,St w0 W (aA (.slice (some ⟨g,0,none⟩) n cap) (P++(Q++((X1++X2)++(Y++(Z++R)))))*F)→∀ ia ib im:Int,ia=(P.length+Q.length:Nat)→ib=mid→im=Y.length→Calls Tryz.prog 235 #[.slice (some ⟨g,0,none⟩) n cap,.int .i64 ia,.int .i64 ib,.int .i64 im,cv] W fun e w'=>e= .returned (.tuple #[])∧St w0 w' (aA (.slice (some ⟨g,0,none⟩) n cap) (P++((Q++Y)++(X2++(X1++(Z++R)))))*F):=fun W hW ia ib im h1 h2 h3=>by
     rw[ae] at hmq hN;have:=sD cv (P++Q) X1 X2 Y (Z++R) (w0:=w0) (w:=W) (F:=F) (g:=g) (n:=n) (cap:=cap) (ia:=ia) (ib:=ib) (im:=im) (by rw[hN];simp only[ae,HPA.out];omega) hX1 hn6 (by simpa using hW) (by rw[h1,ae]) (by rw[h2,ae,HPA.out];omega) (by rw[h3,hX1]);simpa using this
    have HSW:=ac HS;clear HS;have hBA2:B++A=(Q++Y)++(X1++(X2++Z)):=by rw[HBA.out];simp
    have HBA2:=ac hBA2;rw[ae] at hmq hN hx0 hgt hxy;have hX2:0<X2.length:=by omega
    have hX1p:0<X1.length:=by omega
    have hm2:P.length+(Q++Y).length+X2.length=mid:=by rw[ae,HPA.out];omega
    have HM2:=ac hm2;have eX:(X1++X2).length=Y.length+X2.length:=by rw[ae,hX1]
    rw[eX];have HX1:=ac hX1;have j1:(mid:Int)-(Y.length+X2.length:Nat)=((pa+Q.length:Nat):Int):=by omega
    have j2:((Y.length+X2.length:Nat):Int)-Y.length=(X2.length:Nat):=by omega
    have hne:(((Y.length+X2.length:Nat):Int) != Y.length)=true:=by simp;omega
    have hgti:(Y.length:Int)<((Y.length+X2.length:Nat):Int):=by omega
    have hm6:Y.length+X2.length≤mid:=by omega
    have hY6:Y.length≤1000000:=by omega
    have hnm:mid≤1000000:=by omega
    clear hmq hlen hN hxy hgt hm2 hBA2 hX1 eX hx0;generalize hxl2:X2.length=x2 at*
    have HX2L:=ac hxl2;clear hxl2;generalize hyl:Y.length=yl at*
    have HYL:=ac hyl;clear hyl;generalize hxl:yl+x2=xl at*
    have HXL:=ac hxl;clear hxl;generalize hql:Q.length=ql at*
    go_wp2_with (go_at_call 235;refine(HSW.out _ HST.out _ _ _ (by rw[HPA.out];omega) rfl rfl).mono ?_;rintro e w1 ⟨rfl,h1⟩;have H1:=ac h1;clear h1);refine⟨⟨Q++Y,X2,X1,Z,by rw[HX2L.out],by rw[HX1.out],by rw[HX2L.out];exact hX2,hX1p,by rw[HX2L.out];exact HM2.out,HBA2.out,H1.out⟩,by simp [intOf];have:=HXL.out;omega⟩
   ·obtain⟨Y1,Y2,rfl,hY2⟩:∃ Y1 Y2,Y=Y1++Y2∧Y2.length=X.length:=⟨Y.take (Y.length-X.length),Y.drop (Y.length-X.length),(eQ _ _).symm,by rw[bH];omega⟩;have HS:∀ W,St w0 W (aA (.slice (some ⟨g,0,none⟩) n cap) (P++(Q++(X++((Y1++Y2)++(Z++R)))))*F)→∀ ia ib im:Int,ia=(P.length+Q.length:Nat)→ib=(mid+Y1.length:Nat)→im=X.length→Calls Tryz.prog 235 #[.slice (some ⟨g,0,none⟩) n cap,.int .i64 ia,.int .i64 ib,.int .i64 im,cv] W fun e w'=>e= .returned (.tuple #[])∧St w0 w' (aA (.slice (some ⟨g,0,none⟩) n cap) (P++(Q++(Y2++(Y1++((X++Z)++R)))))*F):=fun W hW ia ib im h1 h2 h3=>by
     rw[ae] at hN;have:=sD cv (P++Q) X Y1 Y2 (Z++R) (w0:=w0) (w:=W) (F:=F) (g:=g) (n:=n) (cap:=cap) (ia:=ia) (ib:=ib) (im:=im) (by rw[hN];simp only[ae,HPA.out];omega) hY2.symm hn6 (by simpa using hW) (by rw[h1,ae]) (by rw[h2,ae,HPA.out];omega) h3;simpa using this
    have HSW:=ac HS;clear HS;have hBA2:B++A=Q++(Y1++(Y2++(X++Z))):=by rw[HBA.out];simp
    have HBA2:=ac hBA2;rw[ae] at hN hy0 hgt hxy hlen;have hY1:0<Y1.length:=by omega
    have hY2p:0<Y2.length:=by omega
    have hm2:P.length+Q.length+Y2.length=mid:=by rw[HPA.out,hY2];omega
    have HM2:=ac hm2;have eY:(Y1++Y2).length=Y1.length+X.length:=by rw[ae,hY2]
    rw[eY];have HY2:=ac hY2;have j1:(mid:Int)-X.length=((pa+Q.length:Nat):Int):=by omega
    have j2:((Y1.length+X.length:Nat):Int)-X.length=(Y1.length:Nat):=by omega
    have hne:(((X.length:Nat):Int) != ((Y1.length+X.length:Nat):Int))=true:=by simp;omega
    have hgti:¬ ((Y1.length+X.length:Nat):Int)<(X.length:Int):=by omega
    have j3:(mid:Int)+((Y1.length+X.length:Nat):Int)-X.length=((mid+Y1.length:Nat):Int):=by omega
    have hm6:X.length≤mid:=by omega
    have hY6:mid+(Y1.length+X.length)≤1000000:=by omega
    have hnm:mid≤1000000:=by omega
    clear hmq hlen hN hxy hgt hm2 hBA2 hY2 eY hy0;generalize hxl2:Y1.length=y1 at*
    have HY1L:=ac hxl2;clear hxl2;generalize hxl:X.length=xl at*
    have HXL:=ac hxl;clear hxl;generalize hyl:y1+xl=yl at*
    have HYL:=ac hyl;clear hyl;generalize hql:Q.length=ql at*
    go_wp2_with (go_at_call 235;refine(HSW.out _ HST.out _ _ _ (by rw[HPA.out];omega) (by omega) rfl).mono ?_;rintro e w1 ⟨rfl,h1⟩;have H1:=ac h1;clear h1);refine⟨⟨Q,Y2,Y1,X++Z,by rw[HY2.out],by rw[HY1L.out],hY2p,by rw[HY1L.out];exact hY1,by rw[hql];exact HM2.out,HBA2.out,H1.out⟩,by simp [intOf];have:=HYL.out;omega⟩
def cmpW (x y:Nat):Int:=if x<y then -1 else if y<x then 1 else 0
theorem xX {w:World} (x y:Nat):Calls Tryz.prog 211 #[.int .i64 (x:Int),.int .i64 (y:Int)] w fun e w'=>e= .returned (.int .i64 (cmpW x y))∧w=w':=by
 by_cases h1:x<y
 ·have h2:(x:Int)<y:=by omega
  go_enter Tryz.func211,Tryz.ntmps211
  go_wp2
  go_ret;exact⟨by rw[cmpW,if_pos h1];rfl,rfl⟩
 ·have h2:¬ (x:Int)<y:=by omega
  by_cases h3:y<x
  ·have h4:(y:Int)<x:=by omega
   go_enter Tryz.func211,Tryz.ntmps211
   go_wp2
   go_ret;exact⟨by rw[cmpW,if_neg h1,if_pos h3];rfl,rfl⟩
  ·have h4:¬ (y:Int)<x:=by omega
   go_enter Tryz.func211,Tryz.ntmps211
   go_wp2
   go_ret;exact⟨by rw[cmpW,if_neg h1,if_neg h3];rfl,rfl⟩
theorem pK {P:Program} {f:FuncId} {fn:Func} {c:Code} (hf:P.funcs[f]? =some fn) (hname:(fn.name== "runtime.NumGoroutine")=false) (hb:fn.body=some c) (args:Array Value) (w:World):(callFunc f args).run P w= .ok (.enter f args) w:=by
 have h1:fn.name≠ "runtime.NumGoroutine" :=by simpa using hname
 simp [callFunc,hf,h1,hb,mark]
structure CmpG (g:Nat):Prop where
 ent:∀ args w,(callFunc g args).run Tryz.prog w= .ok (.enter g args) w
 call:∀ {w0 W:World} {B:SProp} (h:St w0 W B) (x y:Pv),Calls Tryz.prog g #[x.val,y.val] W fun e w'=>e= .returned (.int .i64 (cmpW x.wt y.wt))∧St w0 w' B
theorem GO:CmpG 210:=by
 refine⟨pK Tryz.func210 (by kernel_rfl) rfl,fun {w0 W B} h x y=> ?_⟩;unfold Pv.val;have hA:=(h.alloc (.cells #[.int .i64 (x.wt:Int),.slice x.a x.n x.c] 295));have hB:=(hA.alloc (.cells #[.int .i64 (y.wt:Int),.slice y.a y.n y.c] 295));have c1:=hB.right.cell 0 rfl;have c2:=hB.cell 0 rfl;have HB:=ac hB;clear hB hA;have H:=ac h;clear h;go_enter Tryz.func210,Tryz.ntmps210;go_wp2_with (go_at_call 211;refine(xX _ _).mono ?_;rintro e w1 ⟨rfl,rfl⟩);go_ret;exact⟨rfl,HB.out.right.right⟩
theorem GP:CmpG 223:=by
 refine⟨pK Tryz.func223 (by kernel_rfl) rfl,fun {w0 W B} h x y=> ?_⟩;unfold Pv.val;have hA:=(h.alloc (.cells #[.int .i64 (x.wt:Int),.slice x.a x.n x.c] 295));have hB:=(hA.alloc (.cells #[.int .i64 (y.wt:Int),.slice y.a y.n y.c] 295));have c1:=hB.right.cell 0 rfl;have c2:=hB.cell 0 rfl;have HB:=ac hB;clear hB hA;have H:=ac h;clear h;go_enter Tryz.func223,Tryz.ntmps223;go_wp2_with (go_at_call 211;refine(xX _ _).mono ?_;rintro e w1 ⟨rfl,rfl⟩);go_ret;exact⟨rfl,HB.out.right.right⟩
theorem GQ {w0 w:World} {F:SProp} {gc:Nat} (hc:CmpG gc) {g n cap:Nat} (P seg R:List Pv) (hn:n=(P++(seg++R)).length) (hn6:n≤1000000)
  (h:St w0 w (aA (.slice (some ⟨g,0,none⟩) n cap) (P++(seg++R))*F)) {ia ib:Int} (ha:ia=P.length) (hb:ib=(P.length+seg.length:Nat)):
  Calls Tryz.prog 230 #[.slice (some ⟨g,0,none⟩) n cap,.int .i64 ia,.int .i64 ib,.func (.func gc) #[] #[]] w fun e w'=>e= .returned (.tuple #[])∧
   ∃ seg',Ss seg seg'∧St w0 w' (aA (.slice (some ⟨g,0,none⟩) n cap) (P++(seg'++R))*F):=by
 subst ha hb;have hn0:=hn;simp only[ae] at hn;obtain⟨pa,hpa⟩:∃ pa,P.length=pa:=⟨_,rfl⟩;obtain⟨ls,hls⟩:∃ ls,seg.length=ls:=⟨_,rfl⟩;obtain⟨pb,hpb⟩:∃ pb,pa+ls=pb:=⟨_,rfl⟩;rw[hpa,hls] at hn ⊢;rw[hpb];have hpn:pb≤n:=by omega
 have HN:=ac hn0;have HPA:=ac hpa;have HLS:=ac hls;have hent:=hc.ent;clear hn0 hpa hls hn;have H:=ac h;clear h;go_enter Tryz.func230,Tryz.ntmps230;go_wp2_with fail
 go_loopw [8] (fun vi wr=>∃ (k:Nat) (S:List Pv),(k+1≤ls∨k=0)∧vi= .int .i64 (pa+k+1:Nat)∧Ss (seg.take (k+1)) S∧St w0 wr (aA (.slice (some ⟨g,0,none⟩) n cap) (P++(S++(seg.drop (k+1)++R)))*F)) (fun vi _=>pb+2-(intOf vi).toNat)
 case atStart=>
  refine⟨0,seg.take 1,.inr rfl,by go_num,Ss.self ?_,?_⟩
  ·cases seg with
   | nil=>exact List.Pairwise.nil
   | cons x r=>exact zo _ _
  ·rw[← List.append_assoc (seg.take 1),eQ];exact H.out
 case round=>
  clear H;obtain⟨k,S,hk,rfl,hS,hst⟩:=hrel;have hSl:=hS.len;rw[aJ,HLS.out] at hSl
  by_cases hkn:k+1<ls
  ·obtain⟨x,hx⟩:∃ x,seg.drop (k+1)=x::seg.drop (k+1+1):=⟨_,cC (by rw[HLS.out];exact hkn)⟩;have htk:seg.take (k+1+1)=seg.take (k+1)++[x]:=by rw[p7,hx];simp
   rw[hx] at hst;have HST:=ac hst;have HTK:=ac htk;have HS:=ac hS;have hlt:((pa+k+1:Nat):Int)<pb:=by omega
   have hi6:pa+k+1≤1000000:=by omega
   have hiv:pa+(k+1)=pa+k+1:=by omega
   have hmin:min (k+1) ls=k+1:=by omega
   rw[hmin] at hSl;have hmeas:pa+k+1<pb:=by omega
   have hi8:=hk;have HK:=ac hk;clear hst htk hx hk hi8 hS;obtain⟨ii,hii⟩:∃ ii,pa+k+1=ii:=⟨_,rfl⟩;have HII:=ac hii;simp only[hii] at hlt hi6 hmeas hiv ⊢;clear hii;go_wp2_with fail
   go_loopw [9] (fun vj wr=>∃ S1 S2:List Pv,vj= .int .i64 (pa+S1.length:Nat)∧Ss (seg.take (k+1)) (S1++S2)∧(∀ s∈S2,x.wt<s.wt)∧St w0 wr (aA (.slice (some ⟨g,0,none⟩) n cap) (P++(S1++(x::(S2++(seg.drop (k+1+1)++R)))))*F)) (fun vj _=>(intOf vj).toNat)
   case atStart=>
    exact⟨S,[],by rw[hSl,hiv],by rw[bE];exact HS.out,(fun s hs=>by cases hs),by simpa using HST.out⟩
   case round=>
    clear HST HS;obtain⟨S1,S2,rfl,hS,hS2,hst⟩:=hrel;have hSl2:=hS.len;rw[aJ,HLS.out,ae,hmin] at hSl2
    rcases te S1 with rfl | ⟨T,s,rfl⟩
    ·have HST:=ac hst;clear hst;have HS:=ac hS;clear hS;have HS2:=ac hS2;clear hS2;have hd:decide ((pa:Int)<((pa+([]:List Pv).length:Nat):Int))=false:=by simp
     simp only[bD,fL] at hd ⊢;go_wp2_with fail;go_quiet (fail);go_wp2_with fail;refine⟨⟨k+1,x::S2,.inl (by omega),by rw[← HII.out];go_num,?_,?_⟩,by simp [intOf];omega⟩
     ·have:=HS.out.ins (x:=x) (S1:=[]) (S2:=S2) (fun s hs=>by cases hs) HS2.out;rw[HTK.out];exact this
     ·have:=HST.out;simpa using this.drewN _
    ·have hjl:pa+(T++[s]).length=pa+T.length+1:=by simp;omega
     rw[tf] at*
     simp only[hjl];have e:P++((T++[s])++(x::(S2++(seg.drop (k+1+1)++R))))=(P++T)++s::([]++x::(S2++(seg.drop (k+1+1)++R))):=by simp
     rw[e] at hst;have l1:pa+T.length=(P++T).length:=by rw[ae,HPA.out]
     have l2:pa+T.length+1=(P++T).length+1+([]:List Pv).length:=by rw[← l1];rfl
     have l3:n=((P++T)++s::([]++x::(S2++(seg.drop (k+1+1)++R)))).length:=by
      rw[← e,HN.out];simp only[ae,aK,bH,bD,HLS.out] at hSl2 ⊢;omega
     have facts:∀ W,St w0 W (aA (.slice (some ⟨g,0,none⟩) n cap) ((P++T)++s::([]++x::(S2++(seg.drop (k+1+1)++R))))*F)→
       (W.cell? ⟨g,(pa+T.length)*2,none⟩=some (.int .i64 (s.wt:Int))∧W.cell? ⟨g,(pa+T.length)*2+1,none⟩=some (.slice s.a s.n s.c)∧
        W.cell? ⟨g,(pa+T.length+1)*2,none⟩=some (.int .i64 (x.wt:Int))∧W.cell? ⟨g,(pa+T.length+1)*2+1,none⟩=some (.slice x.a x.n x.c))∧∀ i,W.frozen? ⟨g,i,none⟩=false:=fun W hW=>by
      obtain⟨c1,c2⟩:=fV hW l3 (k:=pa+T.length) (fU _ _ _ l1);obtain⟨d1,d2⟩:=fV hW l3 (k:=pa+T.length+1) (by rw[show(P++T)++s::([]++x::(S2++(seg.drop (k+1+1)++R)))=((P++T)++[s])++x::(S2++(seg.drop (k+1+1)++R)) by simp];exact fU _ _ _ (by rw[l2];simp;omega));exact⟨⟨c1,c2,d1,d2⟩,pJ hW l3⟩
     have HFA:=ac facts;clear facts;have HSW:=ac (fun W (hW:St w0 W (aA (.slice (some ⟨g,0,none⟩) n cap) ((P++T)++s::([]++x::(S2++(seg.drop (k+1+1)++R))))*F))=>xW hW l3 l1 l2);have HST:=ac hst;clear hst;have HS:=ac hS;clear hS;have HS2:=ac hS2;clear hS2;have hgt:(pa:Int)<((pa+T.length+1:Nat):Int):=by omega
     have hj1:((pa+T.length+1:Nat):Int)-1=((pa+T.length:Nat):Int):=by omega
     have hb1:pa+T.length+1<n:=by rw[l3];simp only[ae,aK,bD,HPA.out];omega
     have hb2:pa+T.length<n:=by omega
     have hne:(pa+T.length)*2≠(pa+T.length+1)*2:=by omega
     clear l1 l2 l3 e hjl hSl2 hSl hiv hmeas hmin;obtain⟨j0,hj0⟩:∃ j0,pa+T.length=j0:=⟨_,rfl⟩;obtain⟨j1,hj1e⟩:∃ j1,j0+1=j1:=⟨_,rfl⟩;rw[hj0] at HFA HSW hgt hj1 hb1 hb2 hne;rw[hj1e] at HFA HSW hgt hj1 hb1 hne;simp only[hj0,hj1e];have HJ0:=ac hj0;have HJ1:=ac hj1e;have hj6:j1≤1000000:=by omega
     have hjw:IntKind.i64.wrap (j0:Int)=(j0:Int):=IntWalk.i64_in _ (by omega);have hb1i:(j1:Int)<n:=by omega
     have hb2i:(j0:Int)<n:=by omega
     clear hj0 hj1e;go_wp2_with fail;obtain⟨⟨c1,c2,c3,c4⟩,_⟩:=HFA.out _ HST.out
     by_cases hxs:x.wt<s.wt
     ·have hcw:cmpW x.wt s.wt= -1:=by rw[cmpW,if_pos hxs]
      have HC:=ac (fun(W:World) (hW:St w0 W (aA (.slice (some ⟨g,0,none⟩) n cap) ((P++T)++s::([]++x::(S2++(seg.drop (k+1+1)++R))))*F))=>hc.call hW x s);rw[hcw] at HC;go_region_held3 (fun w':World=>w'.cell? ⟨g,j0*2,none⟩=some (.int .i64 (s.wt:Int))∧w'.cell? ⟨g,j0*2+1,none⟩=some (.slice s.a s.n s.c)∧w'.cell? ⟨g,j1*2,none⟩=some (.int .i64 (x.wt:Int))∧w'.cell? ⟨g,j1*2+1,none⟩=some (.slice x.a x.n x.c))
       (first | exact⟨c1,c2,c3,c4⟩ | exact(HFA.out _ H1.out).1) (first | (refine(HC.out _ HST.out.drew).mono ?_;rintro e w1 ⟨rfl,h1⟩;have H1:=ac h1;clear h1))
      clear c1 c2 c3 c4;obtain⟨⟨c1,c2,c3,c4⟩,fr⟩:=HFA.out _ H1.out;go_upto_region 6 with (fail)
      clear HST
      go_region
      go_wp2_with fail;refine⟨⟨T,s::S2,by rw[HJ0.out],?_,?_,?_⟩,?_⟩
      ·have:=HS.out;rw[List.append_assoc] at this;exact this
      ·intro u hu
       rcases List.mem_cons.1 hu with rfl | hu
       ·exact hxs
       ·exact HS2.out u hu
      ·have:=(HSW.out _ H1.out).drew;simp only[List.append_assoc,ba,dB] at this ⊢;exact this
      ·simp [intOf];have:=HJ1.out;omega
     ·have hcw:¬ cmpW x.wt s.wt<0:=by rw[cmpW,if_neg hxs];split <;> omega
      have hcd:decide (cmpW x.wt s.wt<0)=false:=by simpa using hcw
      have HC:=ac (fun(W:World) (hW:St w0 W (aA (.slice (some ⟨g,0,none⟩) n cap) ((P++T)++s::([]++x::(S2++(seg.drop (k+1+1)++R))))*F))=>hc.call hW x s);go_region_held3 (fun w':World=>w'.cell? ⟨g,j0*2,none⟩=some (.int .i64 (s.wt:Int))∧w'.cell? ⟨g,j0*2+1,none⟩=some (.slice s.a s.n s.c)∧w'.cell? ⟨g,j1*2,none⟩=some (.int .i64 (x.wt:Int))∧w'.cell? ⟨g,j1*2+1,none⟩=some (.slice x.a x.n x.c))
       (first | exact⟨c1,c2,c3,c4⟩ | exact(HFA.out _ H1.out).1) (first | (refine(HC.out _ HST.out.drew).mono ?_;rintro e w1 ⟨rfl,h1⟩;have H1:=ac h1;clear h1))
      go_wp2_with fail;refine⟨⟨k+1,(T++[s])++x::S2,.inl (by omega),by rw[← HII.out];go_num,?_,?_⟩,by simp [intOf];omega⟩
      ·rw[HTK.out];refine HS.out.ins (fun u hu=> ?_) HS2.out;have h3:=(fl.1 (fl.1 HS.out.srt).1).2.2
       rcases cA.1 hu with hu | hu
       ·have:=h3 u hu s (by simp);omega
       ·rw[List.mem_singleton] at hu;subst hu;omega
      ·have:=H1.out;simp only[List.append_assoc,ba,dB,List.singleton_append] at this ⊢;exact this
  ·have HST:=ac hst;have HS:=ac hS;have hlt:¬ ((pa+k+1:Nat):Int)<pb:=by omega
   clear hst hS;go_wp2_with fail
   go_end0
   refine⟨rfl,S,?_,?_⟩
   ·have:=HS.out;rw[bU (by rw[HLS.out];omega)] at this;exact this
   ·have:=HST.out;rw[iD (by rw[HLS.out];omega),ba] at this;exact this
theorem GR {w0 w:World} {F:SProp} {gc:Nat} (hc:CmpG gc) {g n cap:Nat} (P:List Pv) (x:Pv) (B R:List Pv) (hn:n=(P++(x::(B++R))).length) (hn6:n≤1000000) (hB:SrtP B)
  (h:St w0 w (aA (.slice (some ⟨g,0,none⟩) n cap) (P++(x::(B++R)))*F)) {ia im ib:Int} (ha:ia=P.length) (hm:im=(P.length+1:Nat)) (hb:ib=(P.length+1+B.length:Nat)):
  Calls Tryz.prog 231 #[.slice (some ⟨g,0,none⟩) n cap,.int .i64 ia,.int .i64 im,.int .i64 ib,.func (.func gc) #[] #[]] w fun e w'=>e= .returned (.tuple #[])∧
   ∃ seg',Ss (x::B) seg'∧St w0 w' (aA (.slice (some ⟨g,0,none⟩) n cap) (P++(seg'++R))*F):=by
 subst ha hm hb;have hn0:=hn;simp only[ae,aK] at hn;obtain⟨pa,hpa⟩:∃ pa,P.length=pa:=⟨_,rfl⟩;obtain⟨pm,hpm⟩:∃ pm,pa+1=pm:=⟨_,rfl⟩;obtain⟨pb,hpb⟩:∃ pb,pm+B.length=pb:=⟨_,rfl⟩;rw[hpa] at hn ⊢;rw[hpm,hpb];have hpn:pb≤n:=by omega
 have HN:=ac hn0;have HPA:=ac hpa;have HPB:=ac hpb;have hent:=hc.ent;clear hn0 hpa hn;have HH:=ac h;clear h;have hs0:(pm:Int)-pa=1:=by omega
 go_enter Tryz.func231,Tryz.ntmps231;go_wp2_with fail
 go_loopw [10,11,12] (fun vi vj vh wr=>∃ B1 Bm B2:List Pv,B=B1++(Bm++B2)∧vi= .int .i64 (pm+B1.length:Nat)∧vj= .int .i64 (pm+B1.length+Bm.length:Nat)∧(∀ y∈B1,y.wt<x.wt)∧(∀ y∈B2,x.wt≤y.wt)∧
  St w0 wr (aA (.slice (some ⟨g,0,none⟩) n cap) (P++(x::(B++R)))*F)) (fun vi vj _ _=>(intOf vj).toNat-(intOf vi).toNat)
 case atStart=>exact⟨[],B,[],by simp,by simp,by rw[← hpb];simp,(fun y hy=>by cases hy),(fun y hy=>by cases hy),HH.out⟩
 case round=>
  clear HH;obtain⟨B1,Bm,B2,hBe,rfl,rfl,h1,h2,hst⟩:=hrel;have hBl:=congrArg List.length hBe;simp only[ae] at hBl
  rcases te Bm with hnil | hne
  ·subst hnil;have hge:¬ ((pm+B1.length:Nat):Int)<((pm+B1.length+([]:List Pv).length:Nat):Int):=by simp
   have HST:=ac hst;clear hst;rw[ba] at hBe;simp only[bD,fL] at hge hBl ⊢;have hi1:((pm+B1.length:Nat):Int)-1=((pa+B1.length:Nat):Int):=by omega
   have hi6:pm+B1.length≤1000000:=by omega
   obtain⟨vi,hvi⟩:∃ vi,pm+B1.length=vi:=⟨_,rfl⟩;obtain⟨vk,hvk⟩:∃ vk,pa+B1.length=vk:=⟨_,rfl⟩;rw[hvi] at hge hi6 ⊢;rw[hvi,hvk] at hi1;have HVK:=ac hvk;have H1:=ac h1;have H2:=ac h2;have HBE:=ac hBe;clear hvi hvk h1 h2 hBe;go_wp2_with fail
   go_loopw [13] (fun vk wr=>∃ T1 T2:List Pv,B1=T1++T2∧vk= .int .i64 (pa+T1.length:Nat)∧
    St w0 wr (aA (.slice (some ⟨g,0,none⟩) n cap) (P++(T1++(x::(T2++(B2++R)))))*F)) (fun k _=>n-(intOf k).toNat)
   case atStart=>exact⟨[],B1,rfl,by simp,by have:=HST.out;rw[HBE.out] at this;simpa using this⟩
   case round=>
    clear HST;obtain⟨T1,T2,hT,rfl,hst⟩:=hrel;have hTl:=congrArg List.length hT;rw[ae] at hTl;cases T2 with
    | nil=>
     have hge2:¬ ((pa+T1.length:Nat):Int)<(vk:Int):=by have:=HVK.out;simp at hTl;omega
     have HST:=ac hst;clear hst;rw[bE] at hT;subst hT;have h61:pa+B1.length≤1000000:=by omega
     generalize hp1:pa+B1.length=p1 at*
     go_wp2_with fail
     (try simp only[Exit.inBlock,Exit.then])
     refine bodyPost_ret (results_none rfl _ _ _) rfl ?_;refine⟨rfl,B1++x::B2,?_,?_⟩
     ·have hBe:=HBE.out;rw[hBe] at hB ⊢;have hs:=fl.1 hB;have:=Ss.merge (A1:=[]) (A2:=[x]) (B1:=B1) (B2:=B2) (L:=B1) (R:=x::B2) (Ss.self hs.1) (Ss.self (ed.2 ⟨fun y hy=>H2.out y hy,hs.2.1⟩)) (by simp [SrtP]) hB (fun u hu=>by cases hu) (fun y hy u hu=>by rw[List.mem_singleton] at hu;subst hu;exact H1.out y hy);exact this
     ·have:=HST.out;simpa using this
    | cons y T2=>
     rw[aK] at hTl;have hlt2:((pa+T1.length:Nat):Int)<(vk:Int):=by have:=HVK.out;omega
     have e:P++(T1++(x::((y::T2)++(B2++R))))=(P++T1)++x::([]++y::(T2++(B2++R))):=by simp
     rw[e] at hst;have l1:pa+T1.length=(P++T1).length:=by rw[ae,HPA.out]
     have l2:pa+T1.length+1=(P++T1).length+1+([]:List Pv).length:=by rw[← l1];rfl
     have l3:n=((P++T1)++x::([]++y::(T2++(B2++R)))).length:=by
      rw[HN.out,HBE.out];simp only[ae,aK,bD];omega
     obtain⟨c1,c2⟩:=fV hst l3 (k:=pa+T1.length) (fU _ _ _ l1);obtain⟨d1,d2⟩:=fV hst l3 (k:=pa+T1.length+1) (by rw[show(P++T1)++x::([]++y::(T2++(B2++R)))=((P++T1)++[x])++y::(T2++(B2++R)) by simp];exact fU _ _ _ (by rw[l2];simp;omega));have fr:=pJ hst l3;have HSW:=ac (xV hst l3 l1 l2);clear hst;have hb1:pa+T1.length+1<n:=by rw[l3];simp only[ae,aK,bD,HPA.out];omega
     have hb2:pa+T1.length<n:=by omega
     have hneq:(pa+T1.length)*2≠(pa+T1.length+1)*2:=by omega
     obtain⟨j0,hj0⟩:∃ j0,pa+T1.length=j0:=⟨_,rfl⟩;obtain⟨j1,hj1⟩:∃ j1,j0+1=j1:=⟨_,rfl⟩;rw[hj0] at c1 c2 d1 d2 HSW hb1 hb2 hneq hlt2 ⊢;rw[hj1] at d1 d2 HSW hb1 hneq;have hji:(j0:Int)+1=(j1:Int):=by omega
     have hT2:B1=(T1++[y])++T2:=by rw[hT];simp
     have HT2:=ac hT2;have HJ:=ac (show j1=pa+(T1++[y]).length by simp;omega);have HJM:=ac (show n-j1<n-j0 by omega);clear l1 l2 l3 e hTl hT hT2 hj0 hj1 hBl HPB hpb;go_upto_region 11 with (fail)
     go_region
     go_wp2_with fail;refine⟨⟨T1++[y],T2,HT2.out,by rw[HJ.out],?_⟩,by simpa [intOf] using HJM.out⟩;have:=HSW.out.drew;simp only[List.append_assoc,ba,dB] at this ⊢;exact this
  ·have hpos:0<Bm.length:=by
    obtain⟨l',b',rfl⟩:=hne;rw[tf];simp
   obtain⟨C1,c,C2,rfl,hC1⟩:=xU hpos;clear hne;have hlt:((pm+B1.length:Nat):Int)<((pm+B1.length+(C1++c::C2).length:Nat):Int):=by omega
   obtain⟨vi,hvi⟩:∃ vi,pm+B1.length=vi:=⟨_,rfl⟩;obtain⟨vj,hvj⟩:∃ vj,vi+(C1++c::C2).length=vj:=⟨_,rfl⟩;obtain⟨vh,hvh⟩:∃ vh,vi+C1.length=vh:=⟨_,rfl⟩;rw[hvi,hvj] at hlt;simp only[hvi,hvj];have hhalf:((vi:Int)+vj)/2=(vh:Int):=by omega
   have hvhj:vh<vj:=by omega
   have hvih:vi≤vh:=by omega
   have hj6:vj≤1000000:=by omega
   have e:P++(x::(B++R))=(P++x::(B1++C1))++c::(C2++(B2++R)):=by rw[hBe];simp
   have facts:∀ W,St w0 W (aA (.slice (some ⟨g,0,none⟩) n cap) (P++(x::(B++R)))*F)→
     (W.cell? ⟨g,pa*2,none⟩=some (.int .i64 (x.wt:Int))∧W.cell? ⟨g,pa*2+1,none⟩=some (.slice x.a x.n x.c)∧
      W.cell? ⟨g,vh*2,none⟩=some (.int .i64 (c.wt:Int))∧W.cell? ⟨g,vh*2+1,none⟩=some (.slice c.a c.n c.c)):=fun W hW=>by
    obtain⟨c1,c2⟩:=fV hW HN.out (k:=pa) (fU _ _ _ HPA.out.symm);obtain⟨d1,d2⟩:=fV hW HN.out (k:=vh) (by rw[e];exact fU _ _ _ (by simp only[ae,aK,HPA.out];omega));exact⟨c1,c2,d1,d2⟩
   have HFA:=ac facts;have HST:=ac hst;obtain⟨c1,c2,c3,c4⟩:=facts _ hst;have hb1:pa<n:=by have:=HPB.out;omega
   have hb2:vh<n:=by have:=HPB.out;omega
   have hb1i:(pa:Int)<n:=by omega
   have hb2i:(vh:Int)<n:=by omega
   have hS:=hB;rw[hBe] at hS;have s1:=fl.1 hS;have s2:=fl.1 s1.2.1;have s3:=fl.1 s2.1;have HC1:Hid (∀ y∈C1,y.wt≤c.wt):=ac fun y hy=>s3.2.2 y hy c (by simp)
   have HC2:Hid (∀ y∈C2,c.wt≤y.wt):=ac fun y hy=>(ed.1 s3.2.1).1 y hy
   have H1:=ac h1;have H2:=ac h2;have HBE:=ac hBe;have HVI:=ac hvi;have HVJ:=ac hvj;have HVH:=ac hvh;clear hst facts e hBe h1 h2 hvi hvj hvh hS s1 s2 s3 hBl hC1 hpos
   by_cases hxs:c.wt<x.wt
   ·have hcw:cmpW c.wt x.wt= -1:=by rw[cmpW,if_pos hxs]
    have HC:=ac (fun(W:World) (hW:St w0 W (aA (.slice (some ⟨g,0,none⟩) n cap) (P++(x::(B++R)))*F))=>hc.call hW c x);rw[hcw] at HC;go_upto_region 5 with (fail)
    go_region_held3 (fun w':World=>w'.cell? ⟨g,pa*2,none⟩=some (.int .i64 (x.wt:Int))∧w'.cell? ⟨g,pa*2+1,none⟩=some (.slice x.a x.n x.c)∧w'.cell? ⟨g,vh*2,none⟩=some (.int .i64 (c.wt:Int))∧w'.cell? ⟨g,vh*2+1,none⟩=some (.slice c.a c.n c.c))
     (first | exact⟨c1,c2,c3,c4⟩ | exact(HFA.out _ HS1.out)) (first | (refine(HC.out _ HST.out.drew).mono ?_;rintro e w1 ⟨rfl,h1⟩;have HS1:=ac h1;clear h1))
    go_wp2_with fail;refine⟨⟨B1++(C1++[c]),C2,B2,by rw[HBE.out];simp,?_,?_,?_,H2.out,HS1.out⟩,?_⟩
    ·have:=HVI.out;have:=HVH.out;simp only[ae,aK,bD];go_num
    ·have:=HVI.out;have:=HVJ.out;rw[show pm+(B1++(C1++[c])).length+C2.length=vj by rw[← HVJ.out,← HVI.out];simp only[ae,aK,bD];omega]
    ·intro y hy
     rcases cA.1 hy with hy | hy
     ·exact H1.out y hy
     ·rcases cA.1 hy with hy | hy
      ·have:=HC1.out y hy;omega
      ·rw[List.mem_singleton] at hy;subst hy;exact hxs
    ·simp [intOf];omega
   ·have hcw:¬ cmpW c.wt x.wt<0:=by rw[cmpW,if_neg hxs];split <;> omega
    have hcd:decide (cmpW c.wt x.wt<0)=false:=by simpa using hcw
    have HC:=ac (fun(W:World) (hW:St w0 W (aA (.slice (some ⟨g,0,none⟩) n cap) (P++(x::(B++R)))*F))=>hc.call hW c x);go_upto_region 5 with (fail)
    go_region_held3 (fun w':World=>w'.cell? ⟨g,pa*2,none⟩=some (.int .i64 (x.wt:Int))∧w'.cell? ⟨g,pa*2+1,none⟩=some (.slice x.a x.n x.c)∧w'.cell? ⟨g,vh*2,none⟩=some (.int .i64 (c.wt:Int))∧w'.cell? ⟨g,vh*2+1,none⟩=some (.slice c.a c.n c.c))
     (first | exact⟨c1,c2,c3,c4⟩ | exact(HFA.out _ HS1.out)) (first | (refine(HC.out _ HST.out.drew).mono ?_;rintro e w1 ⟨rfl,h1⟩;have HS1:=ac h1;clear h1))
    go_wp2_with fail;refine⟨⟨B1,C1,c::(C2++B2),by rw[HBE.out];simp,by rw[HVI.out],by rw[HVI.out,HVH.out],H1.out,?_,HS1.out⟩,?_⟩
    ·intro y hy
     rcases List.mem_cons.1 hy with rfl | hy
     ·omega
     ·rcases cA.1 hy with hy | hy
      ·have:=HC2.out y hy;omega
      ·exact H2.out y hy
    ·simp [intOf];omega
theorem GS {w0 w:World} {F:SProp} {gc:Nat} (hc:CmpG gc) {g n cap:Nat} (P:List Pv) (y:Pv) (A R:List Pv) (hA1:A.length≠1) (hn:n=(P++(A++(y::R))).length) (hn6:n≤1000000) (hA:SrtP A)
  (h:St w0 w (aA (.slice (some ⟨g,0,none⟩) n cap) (P++(A++(y::R)))*F)) {ia im ib:Int} (ha:ia=P.length) (hm:im=(P.length+A.length:Nat)) (hb:ib=(P.length+A.length+1:Nat)):
  Calls Tryz.prog 231 #[.slice (some ⟨g,0,none⟩) n cap,.int .i64 ia,.int .i64 im,.int .i64 ib,.func (.func gc) #[] #[]] w fun e w'=>e= .returned (.tuple #[])∧
   ∃ seg',Ss (A++[y]) seg'∧St w0 w' (aA (.slice (some ⟨g,0,none⟩) n cap) (P++(seg'++R))*F):=by
 subst ha hm hb;have hn0:=hn;simp only[ae,aK] at hn;obtain⟨pa,hpa⟩:∃ pa,P.length=pa:=⟨_,rfl⟩;obtain⟨pm,hpm⟩:∃ pm,pa+A.length=pm:=⟨_,rfl⟩;obtain⟨pb,hpb⟩:∃ pb,pm+1=pb:=⟨_,rfl⟩;rw[hpa] at hn ⊢;rw[hpm,hpb];have hpn:pb≤n:=by omega
 have HN:=ac hn0;have HPA:=ac hpa;have HPM:=ac hpm;have HPB:=ac hpb;have hent:=hc.ent;have hs0:((pm:Int)-pa==1)=false:=by simp;omega
 have hs0n:¬ ((pm:Int)-pa=1):=by omega
 have hs1:(pb:Int)-pm=1:=by omega
 clear hn0 hpa hn hA1;have HH:=ac h;clear h;go_enter Tryz.func231,Tryz.ntmps231;go_wp2_with fail
 go_loopw [14,15,16] (fun vi vj vh wr=>∃ B1 Bm B2:List Pv,A=B1++(Bm++B2)∧vi= .int .i64 (pa+B1.length:Nat)∧vj= .int .i64 (pa+B1.length+Bm.length:Nat)∧(∀ x∈B1,x.wt≤y.wt)∧(∀ x∈B2,y.wt<x.wt)∧
  St w0 wr (aA (.slice (some ⟨g,0,none⟩) n cap) (P++(A++(y::R)))*F)) (fun vi vj _ _=>(intOf vj).toNat-(intOf vi).toNat)
 case atStart=>exact⟨[],A,[],by simp,by simp,by rw[← HPM.out];simp,(fun y hy=>by cases hy),(fun y hy=>by cases hy),HH.out⟩
 case round=>
  clear HH;obtain⟨B1,Bm,B2,hBe,rfl,rfl,h1,h2,hst⟩:=hrel;have hBl:=congrArg List.length hBe;simp only[ae] at hBl
  rcases te Bm with hnil | hne
  ·subst hnil;have hge:¬ ((pa+B1.length:Nat):Int)<((pa+B1.length+([]:List Pv).length:Nat):Int):=by simp
   have HST:=ac hst;clear hst;rw[ba] at hBe;simp only[bD,fL] at hge hBl ⊢;have hi6:pa+B1.length≤1000000:=by omega
   obtain⟨vi,hvi⟩:∃ vi,pa+B1.length=vi:=⟨_,rfl⟩;rw[hvi] at hge hi6 ⊢;have H1:=ac h1;have H2:=ac h2;have HBE:=ac hBe;have HVI:=ac hvi;clear hvi h1 h2 hBe;go_wp2_with fail
   go_loopw [17] (fun vk wr=>∃ T1 T2:List Pv,B2=T1++T2∧vk= .int .i64 (vi+T1.length:Nat)∧
    St w0 wr (aA (.slice (some ⟨g,0,none⟩) n cap) (P++(B1++(T1++(y::(T2++R)))))*F)) (fun k _=>(intOf k).toNat)
   case atStart=>exact⟨B2,[],by simp,by rw[← HPM.out,← HVI.out,hBl,bQ,ec],by have:=HST.out;rw[HBE.out] at this;simpa using this⟩
   case round=>
    clear HST;obtain⟨T1,T2,hT,rfl,hst⟩:=hrel;have hTl:=congrArg List.length hT;rw[ae] at hTl
    rcases te T1 with hT1 | ⟨T,s,hT1⟩
    ·subst hT1;have hge2:¬ (vi:Int)<((vi+([]:List Pv).length:Nat):Int):=by simp
     have HST:=ac hst;clear hst;rw[ba] at hT;simp only[bD,fL] at hge2 ⊢;have HT:=ac hT;clear hT;go_wp2_with fail
     (try simp only[Exit.inBlock,Exit.then])
     refine bodyPost_ret (results_none rfl _ _ _) rfl ?_;refine⟨rfl,B1++y::B2,?_,?_⟩
     ·have hBe:=HBE.out;rw[hBe] at hA ⊢;have hs:=fl.1 hA;have:=Ss.merge (A1:=B1) (A2:=B2) (B1:=[y]) (B2:=[]) (L:=B1++[y]) (R:=B2) (Ss.self (fl.2 ⟨hs.1,by simp [SrtP],fun u hu z hz=>by rw[List.mem_singleton] at hz;subst hz;exact H1.out u hu⟩)) (by rw[bE];exact Ss.self hs.2.1) hA (by simp [SrtP]) (fun u hu z hz=>by cases hz) (fun z hz u hu=>by rw[List.mem_singleton] at hz;subst hz;exact H2.out u hu);simpa using this
     ·have:=HST.out;rw[← HT.out] at this;simpa using this
    ·rw[tf] at hT1;subst hT1;rw[ae,gY] at hTl;have hgt2:(vi:Int)<((vi+(T++[s]).length:Nat):Int):=by simp;omega
     have e:P++(B1++((T++[s])++(y::(T2++R))))=(P++(B1++T))++s::([]++y::(T2++R)):=by simp
     rw[e] at hst;have l1:vi+T.length=(P++(B1++T)).length:=by simp only[ae,HPA.out,← HVI.out];omega
     have l2:vi+T.length+1=(P++(B1++T)).length+1+([]:List Pv).length:=by rw[← l1];rfl
     have l3:n=((P++(B1++T))++s::([]++y::(T2++R))).length:=by
      have hBe:=HBE.out;rw[HN.out,hBe];simp only[ae,aK,bD];omega
     obtain⟨c1,c2⟩:=fV hst l3 (k:=vi+T.length) (fU _ _ _ l1);obtain⟨d1,d2⟩:=fV hst l3 (k:=vi+T.length+1) (by rw[show(P++(B1++T))++s::([]++y::(T2++R))=((P++(B1++T))++[s])++y::(T2++R) by simp];exact fU _ _ _ (by rw[l2];simp;omega));have fr:=pJ hst l3;have HSW:=ac (xW hst l3 l1 l2);clear hst;have hb1:vi+T.length+1<n:=by rw[l3];rw[l2];simp only[ae,aK,bD,HPA.out];omega
     have hb2:vi+T.length<n:=by omega
     have hneq:(vi+T.length)*2≠(vi+T.length+1)*2:=by omega
     have hjl:vi+(T++[s]).length=vi+T.length+1:=by simp;omega
     simp only[hjl] at hgt2 ⊢;obtain⟨j0,hj0⟩:∃ j0,vi+T.length=j0:=⟨_,rfl⟩;obtain⟨j1,hj1⟩:∃ j1,j0+1=j1:=⟨_,rfl⟩;rw[hj0] at c1 c2 d1 d2 HSW hb1 hb2 hneq hgt2 ⊢;rw[hj1] at d1 d2 HSW hb1 hneq hgt2 ⊢;have hji:(j1:Int)-1=(j0:Int):=by omega
     have hjw:IntKind.i64.wrap (j0:Int)=(j0:Int):=IntWalk.i64_in _ (by omega);have hb1i:(j1:Int)<n:=by omega
     have hb2i:(j0:Int)<n:=by omega
     have hj16:j1≤1000000:=by omega
     have hT2:B2=T++(s::T2):=by rw[hT];simp
     have HT2:=ac hT2;have HJ:=ac hj0;have HJM:=ac (show j0<j1 by omega);clear l1 l2 l3 e hTl hT hT2 hj0 hj1 hBl HPB hjl;go_upto_region 23 with (fail)
     go_region
     go_wp2_with fail;refine⟨⟨T,s::T2,HT2.out,by rw[HJ.out],?_⟩,by simpa [intOf] using HJM.out⟩;have:=HSW.out.drew;simp only[List.append_assoc,ba,dB] at this ⊢;exact this
  ·have hpos:0<Bm.length:=by
    obtain⟨l',b',rfl⟩:=hne;rw[tf];simp
   obtain⟨C1,c,C2,rfl,hC1⟩:=xU hpos;clear hne;have hlt:((pa+B1.length:Nat):Int)<((pa+B1.length+(C1++c::C2).length:Nat):Int):=by omega
   obtain⟨vi,hvi⟩:∃ vi,pa+B1.length=vi:=⟨_,rfl⟩;obtain⟨vj,hvj⟩:∃ vj,vi+(C1++c::C2).length=vj:=⟨_,rfl⟩;obtain⟨vh,hvh⟩:∃ vh,vi+C1.length=vh:=⟨_,rfl⟩;rw[hvi,hvj] at hlt;simp only[hvi,hvj];have hhalf:((vi:Int)+vj)/2=(vh:Int):=by omega
   have hvhj:vh<vj:=by omega
   have hvih:vi≤vh:=by omega
   have hpmA:vj≤pm:=by rw[← HPM.out];omega
   have hj6:vj≤1000000:=by omega
   have e:P++(A++(y::R))=(P++(B1++C1))++c::(C2++(B2++(y::R))):=by rw[hBe];simp
   have e2:P++(A++(y::R))=(P++A)++y::R:=by simp
   have facts:∀ W,St w0 W (aA (.slice (some ⟨g,0,none⟩) n cap) (P++(A++(y::R)))*F)→
     (W.cell? ⟨g,pm*2,none⟩=some (.int .i64 (y.wt:Int))∧W.cell? ⟨g,pm*2+1,none⟩=some (.slice y.a y.n y.c)∧
      W.cell? ⟨g,vh*2,none⟩=some (.int .i64 (c.wt:Int))∧W.cell? ⟨g,vh*2+1,none⟩=some (.slice c.a c.n c.c)):=fun W hW=>by
    obtain⟨c1,c2⟩:=fV hW HN.out (k:=pm) (by rw[e2];exact fU _ _ _ (by rw[ae,HPA.out];exact HPM.out.symm));obtain⟨d1,d2⟩:=fV hW HN.out (k:=vh) (by rw[e];exact fU _ _ _ (by simp only[ae,aK,HPA.out];omega));exact⟨c1,c2,d1,d2⟩
   have HFA:=ac facts;have HST:=ac hst;obtain⟨c1,c2,c3,c4⟩:=facts _ hst;have hb1:pm<n:=by omega
   have hb2:vh<n:=by omega
   have hb1i:(pm:Int)<n:=by omega
   have hb2i:(vh:Int)<n:=by omega
   have hS:=hA;rw[hBe] at hS;have s1:=fl.1 hS;have s2:=fl.1 s1.2.1;have s3:=fl.1 s2.1;have HC1:Hid (∀ y∈C1,y.wt≤c.wt):=ac fun y hy=>s3.2.2 y hy c (by simp)
   have HC2:Hid (∀ y∈C2,c.wt≤y.wt):=ac fun y hy=>(ed.1 s3.2.1).1 y hy
   have H1:=ac h1;have H2:=ac h2;have HBE:=ac hBe;have HVI:=ac hvi;have HVJ:=ac hvj;have HVH:=ac hvh;clear hst facts e e2 hBe h1 h2 hvi hvj hvh hS s1 s2 s3 hBl hC1 hpos
   by_cases hxs:y.wt<c.wt
   ·have hcw:cmpW y.wt c.wt= -1:=by rw[cmpW,if_pos hxs]
    have HC:=ac (fun(W:World) (hW:St w0 W (aA (.slice (some ⟨g,0,none⟩) n cap) (P++(A++(y::R)))*F))=>hc.call hW y c);rw[hcw] at HC;go_upto_region 17 with (fail)
    go_region_held3 (fun w':World=>w'.cell? ⟨g,pm*2,none⟩=some (.int .i64 (y.wt:Int))∧w'.cell? ⟨g,pm*2+1,none⟩=some (.slice y.a y.n y.c)∧w'.cell? ⟨g,vh*2,none⟩=some (.int .i64 (c.wt:Int))∧w'.cell? ⟨g,vh*2+1,none⟩=some (.slice c.a c.n c.c))
     (first | exact⟨c1,c2,c3,c4⟩ | exact(HFA.out _ HS1.out)) (first | (refine(HC.out _ HST.out.drew).mono ?_;rintro e w1 ⟨rfl,h1⟩;have HS1:=ac h1;clear h1))
    go_wp2_with fail;refine⟨⟨B1,C1,c::(C2++B2),by rw[HBE.out];simp,by rw[HVI.out],by rw[HVI.out,HVH.out],H1.out,?_,HS1.out⟩,?_⟩
    ·intro z hz
     rcases List.mem_cons.1 hz with rfl | hz
     ·omega
     ·rcases cA.1 hz with hz | hz
      ·have:=HC2.out z hz;omega
      ·exact H2.out z hz
    ·simp [intOf];omega
   ·have hcw:¬ cmpW y.wt c.wt<0:=by rw[cmpW,if_neg hxs];split <;> omega
    have hcd:decide (cmpW y.wt c.wt<0)=false:=by simpa using hcw
    have HC:=ac (fun(W:World) (hW:St w0 W (aA (.slice (some ⟨g,0,none⟩) n cap) (P++(A++(y::R)))*F))=>hc.call hW y c);go_upto_region 17 with (fail)
    go_region_held3 (fun w':World=>w'.cell? ⟨g,pm*2,none⟩=some (.int .i64 (y.wt:Int))∧w'.cell? ⟨g,pm*2+1,none⟩=some (.slice y.a y.n y.c)∧w'.cell? ⟨g,vh*2,none⟩=some (.int .i64 (c.wt:Int))∧w'.cell? ⟨g,vh*2+1,none⟩=some (.slice c.a c.n c.c))
     (first | exact⟨c1,c2,c3,c4⟩ | exact(HFA.out _ HS1.out)) (first | (refine(HC.out _ HST.out.drew).mono ?_;rintro e w1 ⟨rfl,h1⟩;have HS1:=ac h1;clear h1))
    go_wp2_with fail;refine⟨⟨B1++(C1++[c]),C2,B2,by rw[HBE.out];simp,?_,?_,?_,H2.out,HS1.out⟩,?_⟩
    ·have:=HVI.out;have:=HVH.out;simp only[ae,aK,bD];go_num
    ·have:=HVI.out;have:=HVJ.out;rw[show pa+(B1++(C1++[c])).length+C2.length=vj by rw[← HVJ.out,← HVI.out];simp only[ae,aK,bD];omega]
    ·intro z hz
     rcases cA.1 hz with hz | hz
     ·exact H1.out z hz
     ·rcases cA.1 hz with hz | hz
      ·have:=HC1.out z hz;omega
      ·rw[List.mem_singleton] at hz;subst hz;omega
    ·simp [intOf];omega
theorem kf {A:List Pv} (h:SrtP A) {i j:Nat} (hij:i≤j) (hj:j<A.length):(A.getD i default).wt≤(A.getD j default).wt:=by
 rcases Nat.eq_or_lt_of_le hij with rfl | hlt
 ·exact Nat.le_refl _
 ·rw[List.getD_eq_getElem?_getD,List.getD_eq_getElem?_getD,ai (by omega),ai hj];exact zj.1 h i j (by omega) hj hlt
theorem GT {A B:List Pv} (hA:SrtP A) (hB:SrtP B) {h s s0 r0:Nat} (h0:s0≤s) (h1:s≤r0) (hr:r0≤A.length) (hrh:r0≤h) (hsb:h≤B.length+s0)
  (e0:s0=0∨h=B.length+s0) (e1:r0=h∨r0=A.length)
  (g0:∀ t,s0≤t→t<s→¬ (B.getD (h-1-t) default).wt<(A.getD t default).wt) (g1:∀ t,s≤t→t<r0→(B.getD (h-1-t) default).wt<(A.getD t default).wt):
  (∀ x∈A.take s,∀ y∈B.drop (h-s),x.wt≤y.wt)∧(∀ y∈B.take (h-s),∀ x∈A.drop s,y.wt<x.wt):=by
 have mem:∀ {l:List Pv} {x:Pv},x∈l→∃ i,i<l.length∧x=l.getD i default:=fun {l x} hx=>by
  obtain⟨i,hi,he⟩:=qb.1 hx;exact⟨i,hi,by rw[List.getD_eq_getElem?_getD,ai hi,← he];rfl⟩
 constructor
 ·intro x hx y hy;obtain⟨i,hi,rfl⟩:=mem hx;obtain⟨k,hk,rfl⟩:=mem hy;rw[aJ] at hi;rw[bH] at hk;have e1':(A.take s).getD i default=A.getD i default:=by rw[List.getD_eq_getElem?_getD,List.getD_eq_getElem?_getD,jn,if_pos (by omega)]
  have e2':(B.drop (h-s)).getD k default=B.getD (h-s+k) default:=by rw[List.getD_eq_getElem?_getD,List.getD_eq_getElem?_getD,lT]
  rw[e1',e2'];have hs:s0<s:=by
   rcases cf s0 s with h | h
   ·exact h
   ·rcases e0 with e0 | e0 <;> omega
  have hg:=g0 (s-1) (by omega) (by omega);have a1:=kf hA (i:=i) (j:=s-1) (by omega) (by omega);have a2:=kf hB (i:=h-s) (j:=h-s+k) (by omega) (by omega);rw[show h-1-(s-1)=h-s by omega] at hg;omega
 ·intro y hy x hx;obtain⟨i,hi,rfl⟩:=mem hx;obtain⟨k,hk,rfl⟩:=mem hy;rw[aJ] at hk;rw[bH] at hi;have e1':(B.take (h-s)).getD k default=B.getD k default:=by rw[List.getD_eq_getElem?_getD,List.getD_eq_getElem?_getD,jn,if_pos (by omega)]
  have e2':(A.drop s).getD i default=A.getD (s+i) default:=by rw[List.getD_eq_getElem?_getD,List.getD_eq_getElem?_getD,lT]
  rw[e1',e2'];have hs:s<r0:=by
   rcases cf s r0 with h | h
   ·exact h
   ·rcases e1 with e1 | e1 <;> omega
  have hg:=g1 s (by omega) hs;have a1:=kf hA (i:=s) (j:=s+i) (by omega) (by omega);have a2:=kf hB (i:=k) (j:=h-1-s) (by omega) (by omega);omega
theorem GU {A B:List Pv} (hA:SrtP A) (hB:SrtP B) {h c t:Nat} (hct:c≤t) (ht:t<A.length) (hc:h-1-c<B.length) (hg:(B.getD (h-1-c) default).wt<(A.getD c default).wt):(B.getD (h-1-t) default).wt<(A.getD t default).wt:=by
 have a1:=kf hA hct ht;have a2:=kf hB (i:=h-1-t) (j:=h-1-c) (by omega) hc;omega
theorem GV {A B:List Pv} (hA:SrtP A) (hB:SrtP B) {h c t:Nat} (hct:t≤c) (ht:c<A.length) (hc:h-1-t<B.length) (hg:¬ (B.getD (h-1-c) default).wt<(A.getD c default).wt):¬ (B.getD (h-1-t) default).wt<(A.getD t default).wt:=by
 have a1:=kf hA hct ht;have a2:=kf hB (i:=h-1-c) (j:=h-1-t) (by omega) hc;omega
theorem xY {l:List Pv} {i:Nat} (h:i<l.length):l[i]? =some (l.getD i default):=by
 rw[List.getD_eq_getElem?_getD,ai h];rfl
theorem GW {gc:Nat} (hc:CmpG gc) (K:Nat)
  (ih:∀ (w0 w:World) (F:SProp) (g n cap:Nat) (P A B R:List Pv),A.length+B.length≤K→0<A.length→0<B.length→SrtP A→SrtP B→n=(P++(A++(B++R))).length→n≤1000000→
   St w0 w (aA (.slice (some ⟨g,0,none⟩) n cap) (P++(A++(B++R)))*F)→∀ (ia im ib:Int),ia=P.length→im=(P.length+A.length:Nat)→ib=(P.length+A.length+B.length:Nat)→
   Calls Tryz.prog 231 #[.slice (some ⟨g,0,none⟩) n cap,.int .i64 ia,.int .i64 im,.int .i64 ib,.func (.func gc) #[] #[]] w fun e w'=>e= .returned (.tuple #[])∧
    ∃ seg',Ss (A++B) seg'∧St w0 w' (aA (.slice (some ⟨g,0,none⟩) n cap) (P++(seg'++R))*F))
  {w0 w:World} {F:SProp} {g n cap:Nat} (P A B R:List Pv) (hK:A.length+B.length≤K+1) (hA2:2≤A.length) (hB2:2≤B.length) (hA:SrtP A) (hB:SrtP B) (hn:n=(P++(A++(B++R))).length) (hn6:n≤1000000)
  (hst:St w0 w (aA (.slice (some ⟨g,0,none⟩) n cap) (P++(A++(B++R)))*F)) {ia im ib:Int} (ha:ia=P.length) (hm:im=(P.length+A.length:Nat)) (hb:ib=(P.length+A.length+B.length:Nat)):
  Calls Tryz.prog 231 #[.slice (some ⟨g,0,none⟩) n cap,.int .i64 ia,.int .i64 im,.int .i64 ib,.func (.func gc) #[] #[]] w fun e w'=>e= .returned (.tuple #[])∧
   ∃ seg',Ss (A++B) seg'∧St w0 w' (aA (.slice (some ⟨g,0,none⟩) n cap) (P++(seg'++R))*F):=by
 subst ha hm hb;have hn0:=hn;simp only[ae] at hn;obtain⟨pa,hpa⟩:∃ pa,P.length=pa:=⟨_,rfl⟩;obtain⟨la,hla⟩:∃ la,A.length=la:=⟨_,rfl⟩;obtain⟨lb,hlb⟩:∃ lb,B.length=lb:=⟨_,rfl⟩;obtain⟨h,hh⟩:∃ h,(la+lb)/2=h:=⟨_,rfl⟩;obtain⟨pm,hpm⟩:∃ pm,pa+la=pm:=⟨_,rfl⟩;obtain⟨pb,hpb⟩:∃ pb,pm+lb=pb:=⟨_,rfl⟩;obtain⟨pd,hpd⟩:∃ pd,pa+h=pd:=⟨_,rfl⟩;obtain⟨s0,hs0⟩:∃ s0,s0=if h<la then h-lb else 0:=⟨_,rfl⟩
 obtain⟨r0,hr0⟩:∃ r0,r0=if h<la then h else la:=⟨_,rfl⟩
 obtain⟨ps,hps⟩:∃ ps,pa+s0=ps:=⟨_,rfl⟩;obtain⟨pr,hpr⟩:∃ pr,pa+r0=pr:=⟨_,rfl⟩;rw[hla,hlb] at hK;rw[hla] at hA2;rw[hlb] at hB2;rw[hpa,hla,hlb] at hn ⊢;rw[hpm,hpb];have hpn:pb≤n:=by omega
 have e0:s0=0∨h=lb+s0:=by rw[hs0];split <;> omega
 have e1:r0=h∨r0=la:=by rw[hr0];split <;> omega
 have er:r0≤la:=by rw[hr0];split <;> omega
 have erh:r0≤h:=by rw[hr0];split <;> omega
 have esb:h≤lb+s0:=by rw[hs0];split <;> omega
 have e01:s0≤r0:=by rw[hs0,hr0];split <;> omega
 have f1:((pm:Int)-pa==1)=false:=by simp;omega
 have f1n:¬ ((pm:Int)-pa=1):=by omega
 have f2:((pb:Int)-pm==1)=false:=by simp;omega
 have f2n:¬ ((pb:Int)-pm=1):=by omega
 have f3:((pa:Int)+pb)/2=(pd:Int):=by omega
 have f4:(pd:Int)≤1000000:=by omega
 have f5:(pm:Int)≤1000000:=by omega
 have f6:(pb:Int)≤1000000:=by omega
 have HN:=ac hn0;have HPA:=ac hpa;have HLA:=ac hla;have HLB:=ac hlb;have HPM:=ac hpm;have HPB:=ac hpb;have HPD:=ac hpd;have HH:=ac hh;have E:=ac (And.intro e0 (And.intro e1 (And.intro er (And.intro erh (And.intro esb e01)))));have HK:=ac hK;have hent:=hc.ent;have HIH:=ac ih;have HST:=ac hst;have HPS:=ac hps;have HPR:=ac hpr;have HS0:=ac hs0;have HR0:=ac hr0;have H22:=ac (And.intro hA2 hB2);clear hps hpr hn0 hpa hla hlb hpm hpb hpd hh hn ih hst e0 e1 er erh esb e01 hK hs0 hr0 hA2 hB2;go_enter Tryz.func231,Tryz.ntmps231
 go_upto_if 140 with (fail)
 go_cut [20,21] from 138 to 146 (fun vs vr wx=>vs= .int .i64 (ps:Nat)∧vr= .int .i64 (pr:Nat)∧wx=w)
 case first=>
  have hpd:=HPD.out;have hpm:=HPM.out;have hpb:=HPB.out;have hh:=HH.out;have h22:=H22.out;have hps:=HPS.out;have hpr:=HPR.out
  by_cases hc1:h<la
  ·have hs:=HS0.out;have hr:=HR0.out;rw[if_pos hc1] at hs hr;have g1:(pd:Int)<pm:=by omega
   have g2:(pd:Int)+pm-pb=(ps:Int):=by omega
   obtain rfl:pr=pd:=by omega
   clear hpd hpm hpb hh h22 hps hpr hs hr hc1;go_wp2_with fail
   go_meet
   exact⟨rfl,rfl,rfl⟩
  ·have hs:=HS0.out;have hr:=HR0.out;rw[if_neg hc1] at hs hr;have g1:¬ (pd:Int)<pm:=by omega
   obtain rfl:pr=pm:=by omega
   obtain rfl:ps=pa:=by omega
   clear hpd hpm hpb hh h22 hps hpr hs hr hc1;go_wp2_with fail
   go_meet
   exact⟨rfl,rfl,rfl⟩
 case rest=>
  obtain⟨rfl,rfl,rfl⟩:=hcut;have l1:A.length=la:=HLA.out;have l2:B.length=lb:=HLB.out;have j1:(pd:Int)+pm-1=((pd+pm-1:Nat):Int):=by have:=HPD.out;have:=HPM.out;have:=H22.out;omega
  obtain⟨pp,hpp⟩:∃ pp,pd+pm-1=pp:=⟨_,rfl⟩;rw[hpp] at j1;have HPP:=ac hpp;clear hpp;go_wp2_with fail
  go_loopw [20,21,23] (fun vs vr vc wr=>∃ s r:Nat,vs= .int .i64 (pa+s:Nat)∧vr= .int .i64 (pa+r:Nat)∧s0≤s∧s≤r∧r≤r0∧
   (∀ t,s0≤t→t<s→¬ (B.getD (h-1-t) default).wt<(A.getD t default).wt)∧(∀ t,r≤t→t<r0→(B.getD (h-1-t) default).wt<(A.getD t default).wt)∧
   St w0 wr (aA (.slice (some ⟨g,0,none⟩) n cap) (P++(A++(B++R)))*F)) (fun vs vr _ _=>(intOf vr).toNat-(intOf vs).toNat)
  case atStart=>exact⟨s0,r0,by rw[HPS.out],by rw[HPR.out],Nat.le_refl _,E.out.2.2.2.2.2,Nat.le_refl _,(fun t h1 h2=>by omega),(fun t h1 h2=>by omega),HST.out⟩
  case round=>
   clear HST;obtain⟨s,r,rfl,rfl,hs,hsr,hr,g0,g1,hst⟩:=hrel;obtain⟨e0,e1,er,erh,esb,e01⟩:=E.out;obtain⟨h2a,h2b⟩:=H22.out;have hpd:=HPD.out;have hpm:=HPM.out;have hpb:=HPB.out;have hh:=HH.out;have hpp:=HPP.out
   by_cases hlt:s<r
   ·obtain⟨vi,hvi⟩:∃ vi,pa+s=vi:=⟨_,rfl⟩;obtain⟨vj,hvj⟩:∃ vj,pa+r=vj:=⟨_,rfl⟩;obtain⟨c,hc'⟩:∃ c,(s+r)/2=c:=⟨_,rfl⟩;obtain⟨vh,hvh⟩:∃ vh,pa+c=vh:=⟨_,rfl⟩;obtain⟨vk,hvk⟩:∃ vk,pm+(h-1-c)=vk:=⟨_,rfl⟩;simp only[hvi,hvj];have hlti:(vi:Int)<vj:=by omega
    have hhalf:((vi:Int)+vj)/2=(vh:Int):=by omega
    have hkk:(pp:Int)-vh=(vk:Int):=by omega
    have hkw:IntKind.i64.wrap (vk:Int)=(vk:Int):=IntWalk.i64_in _ (by omega);have hcA:c<la:=by omega
    have hcB:h-1-c<lb:=by omega
    have x1:=xY (l:=A) (i:=c) (by rw[l1];exact hcA);have y1:=xY (l:=B) (i:=h-1-c) (by rw[l2];exact hcB);have UP:∀ t,c≤t→t<r0→(B.getD (h-1-c) default).wt<(A.getD c default).wt→(B.getD (h-1-t) default).wt<(A.getD t default).wt:=fun t a b q=>GU hA hB a (by omega) (by omega) q
    have DN:∀ t,s0≤t→t≤c→¬ (B.getD (h-1-c) default).wt<(A.getD c default).wt→¬ (B.getD (h-1-t) default).wt<(A.getD t default).wt:=fun t a b q=>GV hA hB b (by omega) (by omega) q
    have HUP:=ac UP;have HDN:=ac DN;generalize hxc:A.getD c default=x at*
    generalize hyc:B.getD (h-1-c) default=y at*
    have facts:∀ W,St w0 W (aA (.slice (some ⟨g,0,none⟩) n cap) (P++(A++(B++R)))*F)→
      (W.cell? ⟨g,vk*2,none⟩=some (.int .i64 (y.wt:Int))∧W.cell? ⟨g,vk*2+1,none⟩=some (.slice y.a y.n y.c)∧
       W.cell? ⟨g,vh*2,none⟩=some (.int .i64 (x.wt:Int))∧W.cell? ⟨g,vh*2+1,none⟩=some (.slice x.a x.n x.c)):=fun W hW=>by
     obtain⟨c1,c2⟩:=fV hW HN.out (k:=vk) (p:=y) (by rw[dh (by rw[HPA.out];omega),dh (by rw[HPA.out,l1];omega),cR (by rw[HPA.out,l1,l2];omega),← y1];congr 1;rw[HPA.out,l1];omega);obtain⟨d1,d2⟩:=fV hW HN.out (k:=vh) (p:=x) (by rw[dh (by rw[HPA.out];omega),cR (by rw[HPA.out,l1];omega),← x1];congr 1;rw[HPA.out];omega);exact⟨c1,c2,d1,d2⟩
    have HFA:=ac facts;have HST:=ac hst;obtain⟨c1,c2,c3,c4⟩:=facts _ hst;have hb1:vk<n:=by omega
    have hb2:vh<n:=by omega
    have hb1i:(vk:Int)<n:=by omega
    have hb2i:(vh:Int)<n:=by omega
    have hvj6:vj≤1000000:=by omega
    have hpp6:pp≤2000000:=by omega
    have G0:=ac g0;have G1:=ac g1;have HM:=ac (show vi≤vh∧vh<vj by omega);have HV:=ac (And.intro hvi (And.intro hvj hvh));have HC':=ac (show s≤c∧c<r∧s0≤s∧r≤r0 from⟨by omega,by omega,hs,hr⟩);clear hst facts g0 g1 UP DN hxc hyc x1 y1 hcA hcB hvi hvj hvh hvk hc' hs hsr hr hlt e0 e1 er erh esb e01 h2a h2b hpd hpm hpb hh hpp l1 l2
    by_cases hxy:y.wt<x.wt
    ·have hcw:cmpW y.wt x.wt= -1:=by rw[cmpW,if_pos hxy]
     have HC:=ac (fun(W:World) (hW:St w0 W (aA (.slice (some ⟨g,0,none⟩) n cap) (P++(A++(B++R)))*F))=>hc.call hW y x);rw[hcw] at HC;go_upto_region 35 with (fail)
     go_region_held3 (fun w':World=>w'.cell? ⟨g,vk*2,none⟩=some (.int .i64 (y.wt:Int))∧w'.cell? ⟨g,vk*2+1,none⟩=some (.slice y.a y.n y.c)∧w'.cell? ⟨g,vh*2,none⟩=some (.int .i64 (x.wt:Int))∧w'.cell? ⟨g,vh*2+1,none⟩=some (.slice x.a x.n x.c))
      (first | exact⟨c1,c2,c3,c4⟩ | exact(HFA.out _ HS1.out)) (first | (refine(HC.out _ HST.out.drew).mono ?_;rintro e w1 ⟨rfl,h1⟩;have HS1:=ac h1;clear h1))
     go_wp2_with fail;refine⟨⟨s,c,by rw[HV.out.1],by rw[HV.out.2.2],HC'.out.2.2.1,HC'.out.1,by have:=HC'.out;omega,G0.out,?_,HS1.out⟩,?_⟩
     ·intro t a b;exact HUP.out t a b hxy
     ·have:=HM.out;simp [intOf];omega
    ·have hcw:¬ cmpW y.wt x.wt<0:=by rw[cmpW,if_neg hxy];split <;> omega
     have hcd:decide (cmpW y.wt x.wt<0)=false:=by simpa using hcw
     have HC:=ac (fun(W:World) (hW:St w0 W (aA (.slice (some ⟨g,0,none⟩) n cap) (P++(A++(B++R)))*F))=>hc.call hW y x);go_upto_region 35 with (fail)
     go_region_held3 (fun w':World=>w'.cell? ⟨g,vk*2,none⟩=some (.int .i64 (y.wt:Int))∧w'.cell? ⟨g,vk*2+1,none⟩=some (.slice y.a y.n y.c)∧w'.cell? ⟨g,vh*2,none⟩=some (.int .i64 (x.wt:Int))∧w'.cell? ⟨g,vh*2+1,none⟩=some (.slice x.a x.n x.c))
      (first | exact⟨c1,c2,c3,c4⟩ | exact(HFA.out _ HS1.out)) (first | (refine(HC.out _ HST.out.drew).mono ?_;rintro e w1 ⟨rfl,h1⟩;have HS1:=ac h1;clear h1))
     go_wp2_with fail;refine⟨⟨c+1,r,by rw[← ec,HV.out.2.2];go_num,by rw[HV.out.2.1],by have:=HC'.out;omega,by have:=HC'.out;omega,by have:=HC'.out;omega,?_,G1.out,HS1.out⟩,?_⟩
     ·intro t a b;exact HDN.out t a (by omega) hxy
     ·have:=HM.out;simp [intOf];omega
   ·obtain rfl:s=r:=by omega
    have hlti:¬ ((pa+s:Nat):Int)<((pa+s:Nat):Int):=by omega
    obtain⟨P1,P2⟩:=GT hA hB hs hr (by rw[l1];exact er) erh (by rw[l2];exact esb) (by rw[l2];exact e0) (by rw[l1];exact e1) g0 g1;have hA':A.take s++A.drop s=A:=eQ _ _;have hB':B.take (h-s)++B.drop (h-s)=B:=eQ _ _;have lA1:(A.take s).length=s:=by rw[aJ,l1];omega
    have lA2:(A.drop s).length=la-s:=by rw[bH,l1]
    have lB1:(B.take (h-s)).length=h-s:=by rw[aJ,l2];omega
    have lB2:(B.drop (h-s)).length=lb-(h-s):=by rw[bH,l2]
    have hA0:=hA;have hB0:=hB;rw[← hA'] at hA0;rw[← hB'] at hB0;obtain⟨A1,hA1⟩:∃ A1,A.take s=A1:=⟨_,rfl⟩;obtain⟨A2,hA2⟩:∃ A2,A.drop s=A2:=⟨_,rfl⟩;obtain⟨B1,hB1⟩:∃ B1,B.take (h-s)=B1:=⟨_,rfl⟩;obtain⟨B2,hB2⟩:∃ B2,B.drop (h-s)=B2:=⟨_,rfl⟩;rw[hA1,hA2] at hA' hA0;rw[hB1,hB2] at hB' hB0;rw[hA1] at lA1 P1;rw[hA2] at lA2 P2;rw[hB1] at lB1 P2;rw[hB2] at lB2 P1;have hAB:P++(A++(B++R))=P++(A1++(A2++(B1++(B2++R)))):=by rw[← hA',← hB'];simp
    rw[hAB] at hst;obtain⟨pst,hpst⟩:∃ pst,pa+s=pst:=⟨_,rfl⟩;obtain⟨pen,hpen⟩:∃ pen,pm+(h-s)=pen:=⟨_,rfl⟩;rw[hpst] at hlti;simp only[hpst];have hN:n=P.length+(A1.length+(A2.length+(B1.length+(B2.length+R.length)))):=by have:=HN.out;rw[hAB] at this;simpa using this
    have hend:(pd:Int)+pm-pst=(pen:Int):=by omega
    have hen6:pen≤1000000:=by omega
    have hst6:pst≤1000000:=by omega
    have HST:=ac hst;have hKA:A1.length+B1.length≤K:=by have:=HK.out;omega
    have hKB:A2.length+B2.length≤K:=by have:=HK.out;omega
    have SA:=fl.1 hA0;have SB:=fl.1 hB0;have HROT:Hid (0<la-s∧0<h-s→∀ W,St w0 W (aA (.slice (some ⟨g,0,none⟩) n cap) (P++(A1++(A2++(B1++(B2++R)))))*F)→Calls Tryz.prog 234 #[.slice (some ⟨g,0,none⟩) n cap,.int .i64 pst,.int .i64 pm,.int .i64 pen,.func (.func gc) #[] #[]] W fun e w'=>e= .returned (.tuple #[])∧St w0 w' (aA (.slice (some ⟨g,0,none⟩) n cap) (P++(A1++(B1++(A2++(B2++R)))))*F)):=ac fun hq W hW=>by
     have:=GN (.func (.func gc) #[] #[]) (P++A1) A2 B1 (B2++R) (w0:=w0) (w:=W) (F:=F) (g:=g) (n:=n) (cap:=cap) (ia:=pst) (im:=pm) (ib:=pen) (by rw[hN];simp only[ae];omega) (by omega) (by omega) hn6 (by simpa using hW) (by rw[ae,HPA.out];omega) (by rw[ae,HPA.out];omega) (by rw[ae,HPA.out];omega);simpa using this
    have HSY1:Hid (0<s∧0<h-s→∀ W,St w0 W (aA (.slice (some ⟨g,0,none⟩) n cap) (P++(A1++(B1++(A2++(B2++R)))))*F)→Calls Tryz.prog 231 #[.slice (some ⟨g,0,none⟩) n cap,.int .i64 pa,.int .i64 pst,.int .i64 pd,.func (.func gc) #[] #[]] W fun e w'=>e= .returned (.tuple #[])∧∃ L,Ss (A1++B1) L∧St w0 w' (aA (.slice (some ⟨g,0,none⟩) n cap) (P++(L++(A2++(B2++R))))*F)):=ac fun hq W hW=>
     HIH.out w0 W F g n cap P A1 B1 (A2++(B2++R)) hKA (by omega) (by omega) SA.1 SB.1 (by rw[hN];simp only[ae];omega) hn6 hW pa pst pd (by rw[HPA.out]) (by rw[HPA.out];omega) (by rw[HPA.out];omega)
    have HSY2:Hid (0<la-s∧0<lb-(h-s)→∀ L:List Pv,L.length=A1.length+B1.length→∀ W,St w0 W (aA (.slice (some ⟨g,0,none⟩) n cap) (P++(L++(A2++(B2++R))))*F)→Calls Tryz.prog 231 #[.slice (some ⟨g,0,none⟩) n cap,.int .i64 pd,.int .i64 pen,.int .i64 pb,.func (.func gc) #[] #[]] W fun e w'=>e= .returned (.tuple #[])∧∃ L',Ss (A2++B2) L'∧St w0 w' (aA (.slice (some ⟨g,0,none⟩) n cap) (P++(L++(L'++R)))*F)):=ac fun hq L hL W hW=>by
     have:=HIH.out w0 W F g n cap (P++L) A2 B2 R hKB (by omega) (by omega) SA.2.1 SB.2.1 (by rw[hN];simp only[ae];omega) hn6 (by simpa using hW) pd pen pb (by rw[ae,HPA.out];omega) (by rw[ae,HPA.out];omega) (by rw[ae,HPA.out];omega);simpa using this
    have HFIN:Hid (∀ L L',Ss (A1++B1) L→Ss (A2++B2) L'→Ss (A++B) (L++L')):=ac fun L L' q1 q2=>by
     have:=Ss.merge q1 q2 hA0 hB0 P1 P2;rw[hA',hB'] at this;exact this
    have HT1:Hid (¬ (0<la-s∧0<h-s)→A1++(A2++(B1++(B2++R)))=A1++(B1++(A2++(B2++R)))):=ac fun hq=>by
     have:A2=[]∨B1=[]:=by
      rcases fM A2.length with q | q
      ·exact .inl (bC q)
      ·exact .inr (bC (by omega))
     rcases this with rfl | rfl <;> simp
    have HT2:Hid (¬ (0<s∧0<h-s)→Ss (A1++B1) (A1++B1)):=ac fun hq=>by
     have:A1=[]∨B1=[]:=by
      rcases fM A1.length with q | q
      ·exact .inl (bC q)
      ·exact .inr (bC (by omega))
     rcases this with rfl | rfl
     ·simpa using Ss.self SB.1
     ·simpa using Ss.self SA.1
    have HT3:Hid (¬ (0<la-s∧0<lb-(h-s))→Ss (A2++B2) (A2++B2)):=ac fun hq=>by
     have:A2=[]∨B2=[]:=by
      rcases fM A2.length with q | q
      ·exact .inl (bC q)
      ·exact .inr (bC (by omega))
     rcases this with rfl | rfl
     ·simpa using Ss.self SB.2.1
     ·simpa using Ss.self SA.2.1
    have HL:=ac (And.intro lA1 (And.intro lA2 (And.intro lB1 lB2)));have C1a:Hid (0<la-s↔(pst:Int)<pm):=ac ⟨fun _=>by omega,fun _=>by omega⟩;have C1b:Hid (0<h-s↔(pm:Int)<pen):=ac ⟨fun _=>by omega,fun _=>by omega⟩;have C2a:Hid (0<s↔(pa:Int)<pst):=ac ⟨fun _=>by omega,fun _=>by omega⟩;have C2b:Hid (0<h-s↔(pst:Int)<pd):=ac ⟨fun _=>by omega,fun _=>by omega⟩;have C3a:Hid (0<la-s↔(pd:Int)<pen):=ac ⟨fun _=>by omega,fun _=>by omega⟩;have C3b:Hid (0<lb-(h-s)↔(pen:Int)<pb):=ac ⟨fun _=>by omega,fun _=>by omega⟩;clear hst hAB hN lA1 lA2 lB1 lB2 hA1 hA2 hB1 hB2 hA' hB' hA0 hB0 SA SB P1 P2 hpst hpen e0 e1 er erh esb e01 h2a h2b hpd hpm hpb hh hpp l1 l2 hKA hKB hs hr hsr hlt g0 g1;obtain⟨b1,hb1⟩:∃ b1,b1=decide (0<la-s∧0<h-s):=⟨_,rfl⟩;obtain⟨b2,hb2⟩:∃ b2,b2=decide (0<s∧0<h-s):=⟨_,rfl⟩;obtain⟨b3,hb3⟩:∃ b3,b3=decide (0<la-s∧0<lb-(h-s)):=⟨_,rfl⟩;have HB1:=ac hb1;have HB2:=ac hb2;have HB3:=ac hb3;clear hb1 hb2 hb3;go_upto_region 39 with (fail)
    go_cut [185] from 178 to 185 (fun v wx=>v= .bool b1∧wx=wr)
    case first=>
     have hb:=HB1.out
     by_cases q1:0<la-s
     ·have i1:=C1a.out.1 q1
      by_cases q2:0<h-s
      ·have i2:=C1b.out.1 q2;rw[decide_eq_true ⟨q1,q2⟩] at hb;subst hb;clear q1 q2;go_wp2_with fail
       go_meet
       exact⟨rfl,rfl⟩
      ·have i2:¬ (pm:Int)<pen:=fun e=>q2 (C1b.out.2 e)
       rw[decide_eq_false (fun e=>q2 e.2)] at hb;subst hb;clear q1 q2;go_wp2_with fail
       go_meet
       exact⟨rfl,rfl⟩
     ·have i1:¬ (pst:Int)<pm:=fun e=>q1 (C1a.out.2 e)
      rw[decide_eq_false (fun e=>q1 e.1)] at hb;subst hb;clear q1;go_wp2_with fail
      go_meet
      exact⟨rfl,rfl⟩
    case rest=>
     obtain⟨rfl,rfl⟩:=hcut
     go_upto_if 185 with (fail)
     go_cut [] from 186 to 191 (fun wx=>St w0 wx (aA (.slice (some ⟨g,0,none⟩) n cap) (P++(A1++(B1++(A2++(B2++R)))))*F))
     case first=>
      cases b1 with
      | true=>
       have hq:=of_decide_eq_true HB1.out.symm;go_wp2_with (go_at_call 234;refine(HROT.out hq _ HST.out).mono ?_;rintro e w1 ⟨rfl,h1⟩;have HS1:=ac h1;clear h1)
       go_meet
       exact HS1.out
      | false=>
       have hq:=of_decide_eq_false HB1.out.symm;have hST:=HST.out;rw[HT1.out hq] at hST;have HS1:=ac hST;clear hST;go_wp2_with fail
       go_meet
       exact HS1.out
     case rest=>
      clear HST HROT HT1 HB1 C1a C1b;have HST:=ac hcut;clear hcut;go_upto_region 41 with (fail)
      go_cut [199] from 192 to 199 (fun v wx=>v= .bool b2∧wx=wc)
      case first=>
       have hb:=HB2.out
       by_cases q1:0<s
       ·have i1:=C2a.out.1 q1
        by_cases q2:0<h-s
        ·have i2:=C2b.out.1 q2;rw[decide_eq_true ⟨q1,q2⟩] at hb;subst hb;clear q1 q2;go_wp2_with fail
         go_meet
         exact⟨rfl,rfl⟩
        ·have i2:=mt C2b.out.2 q2;rw[decide_eq_false (fun e=>q2 e.2)] at hb;subst hb;clear q1 q2;go_wp2_with fail
         go_meet
         exact⟨rfl,rfl⟩
       ·have i1:=mt C2a.out.2 q1;rw[decide_eq_false (fun e=>q1 e.1)] at hb;subst hb;clear q1;go_wp2_with fail
        go_meet
        exact⟨rfl,rfl⟩
      case rest=>
       obtain⟨rfl,rfl⟩:=hcut
       go_upto_if 199 with (fail)
       go_cut [] from 200 to 205 (fun wx=>∃ L,Ss (A1++B1) L∧St w0 wx (aA (.slice (some ⟨g,0,none⟩) n cap) (P++(L++(A2++(B2++R))))*F))
       case first=>
        cases b2 with
        | true=>
         have hq:=of_decide_eq_true HB2.out.symm;go_wp2_with (go_at_call 231;refine(HSY1.out hq _ HST.out).mono ?_;rintro e w1 ⟨rfl,L,q1,h1⟩;have HS1:=ac (And.intro q1 h1);clear h1 q1)
         go_meet
         exact⟨L,HS1.out⟩
        | false=>
         have hq:=of_decide_eq_false HB2.out.symm;go_wp2_with fail
         go_meet
         exact⟨A1++B1,HT2.out hq,by have:=HST.out;simpa using this⟩
       case rest=>
        obtain⟨L,hL,hcut⟩:=hcut;clear HST HSY1 HT2 HB2 C2a C2b;have HST:=ac hcut;have HLL:=ac hL;clear hcut hL;go_upto_region 43 with (fail)
        go_cut [213] from 206 to 213 (fun v wx=>v= .bool b3∧wx=wc)
        case first=>
         have hb:=HB3.out
         by_cases q1:0<la-s
         ·have i1:=C3a.out.1 q1
          by_cases q2:0<lb-(h-s)
          ·have i2:=C3b.out.1 q2;rw[decide_eq_true ⟨q1,q2⟩] at hb;subst hb;clear q1 q2;go_wp2_with fail
           go_meet
           exact⟨rfl,rfl⟩
          ·have i2:=mt C3b.out.2 q2;rw[decide_eq_false (fun e=>q2 e.2)] at hb;subst hb;clear q1 q2;go_wp2_with fail
           go_meet
           exact⟨rfl,rfl⟩
         ·have i1:=mt C3a.out.2 q1;rw[decide_eq_false (fun e=>q1 e.1)] at hb;subst hb;clear q1;go_wp2_with fail
          go_meet
          exact⟨rfl,rfl⟩
        case rest=>
         obtain⟨rfl,rfl⟩:=hcut;cases b3 with
         | true=>
          have hq:=of_decide_eq_true HB3.out.symm;go_wp2_with (go_at_call 231;refine(HSY2.out hq L (by have:=HLL.out.len;simpa using this) _ HST.out).mono ?_;rintro e w1 ⟨rfl,L',q1,h1⟩;have HS1:=ac (And.intro q1 h1);clear h1 q1)
          go_end0
          exact⟨rfl,L++L',HFIN.out _ _ HLL.out HS1.out.1,by have:=HS1.out.2;simpa using this⟩
         | false=>
          have hq:=of_decide_eq_false HB3.out.symm;go_wp2_with fail
          go_end0
          exact⟨rfl,L++(A2++B2),HFIN.out _ _ HLL.out (HT3.out hq),by have:=HST.out;simpa using this⟩
theorem GX {gc:Nat} (hc:CmpG gc):∀ (K:Nat) (w0 w:World) (F:SProp) (g n cap:Nat) (P A B R:List Pv),A.length+B.length≤K→0<A.length→0<B.length→SrtP A→SrtP B→n=(P++(A++(B++R))).length→n≤1000000→
   St w0 w (aA (.slice (some ⟨g,0,none⟩) n cap) (P++(A++(B++R)))*F)→∀ (ia im ib:Int),ia=P.length→im=(P.length+A.length:Nat)→ib=(P.length+A.length+B.length:Nat)→
   Calls Tryz.prog 231 #[.slice (some ⟨g,0,none⟩) n cap,.int .i64 ia,.int .i64 im,.int .i64 ib,.func (.func gc) #[] #[]] w fun e w'=>e= .returned (.tuple #[])∧
    ∃ seg',Ss (A++B) seg'∧St w0 w' (aA (.slice (some ⟨g,0,none⟩) n cap) (P++(seg'++R))*F):=by
 intro K
 induction K with
 | zero=>intro w0 w F g n cap P A B R hK hA;omega
 | succ K ih=>
  intro w0 w F g n cap P A B R hK hA0 hB0 hA hB hn hn6 h ia im ib ha hm hb
  by_cases h1:A.length=1
  ·obtain⟨x,rfl⟩:=tg.1 h1;have:=GR hc P x B R (w0:=w0) (w:=w) (F:=F) (g:=g) (n:=n) (cap:=cap) (ia:=ia) (im:=im) (ib:=ib) hn hn6 hB h ha hm hb;exact this
  ·by_cases h2:B.length=1
   ·obtain⟨y,rfl⟩:=tg.1 h2;have:=GS hc P y A R (w0:=w0) (w:=w) (F:=F) (g:=g) (n:=n) (cap:=cap) (ia:=ia) (im:=im) (ib:=ib) h1 hn hn6 hA h ha hm hb;exact this
   ·exact GW hc K ih P A B R hK (by omega) (by omega) hA hB hn hn6 h ha hm hb
inductive Bk (bs:Nat):List Pv→List Pv→Prop
 | last {l d:List Pv} (h:l.length≤bs) (s:Ss l d):Bk bs l d
 | cons {l d l' d':List Pv} (h:l.length=bs) (s:Ss l d) (k:Bk bs l' d'):Bk bs (l++l') (d++d')
theorem Bk.len {bs:Nat} {l d:List Pv} (h:Bk bs l d):d.length=l.length:=by
 induction h with
 | last h s=>exact s.len
 | cons h s k ih=>rw[ae,ae,s.len,ih]
theorem Bk.one {bs:Nat} {l d:List Pv} (h:Bk bs l d) (hl:l.length≤bs):Ss l d:=by
 cases h with
 | last h s=>exact s
 | @cons l d l' d' h s k=>
  have hl':l'=[]:=bC (by rw[ae] at hl;omega);subst hl';have hd':d'=[]:=bC (by rw[k.len];rfl);subst hd';simpa using s
theorem Bk.two {bs:Nat} {l d:List Pv} (h:Bk bs l d) (hl:bs<l.length):∃ l1 l2 l3 d1 d2 d3,l=l1++(l2++l3)∧d=d1++(d2++d3)∧l1.length=bs∧l2.length=min bs (l.length-bs)∧Ss l1 d1∧Ss l2 d2∧Bk bs l3 d3:=by
 cases h with
 | last h s=>omega
 | @cons l1 d1 l' d' h s k=>
  rw[ae] at hl ⊢;cases k with
  | last h' s'=>exact⟨l1,l',[],d1,d',[],by simp,by simp,h,by omega,s,s',.last (by simp) Ss.nil⟩
  | @cons l2 d2 l3 d3 h' s' k'=>exact⟨l1,l2,l3,d1,d2,d3,rfl,rfl,h,by rw[ae];omega,s,s',k'⟩
def Cont (bs:Nat) (l d:List Pv):Prop:=∀ l' d',Bk bs l' d'→Bk bs (l++l') (d++d')
theorem Cont.nil (bs:Nat):Cont bs [] []:=fun _ _ h=>h
theorem Cont.more {bs:Nat} {l d l1 d1:List Pv} (h:Cont bs l d) (hl:l1.length=bs) (s:Ss l1 d1):Cont bs (l++l1) (d++d1):=fun l' d' k=>by
 rw[List.append_assoc,List.append_assoc];exact h _ _ (.cons hl s k)
theorem GY {w0 w:World} {F:SProp} {gc:Nat} (hc:CmpG gc) {g n cap:Nat} (l:List Pv) (hn:n=l.length) (hn6:n≤100000)
  (h:St w0 w (aA (.slice (some ⟨g,0,none⟩) n cap) l*F)):
  Calls Tryz.prog 220 #[.slice (some ⟨g,0,none⟩) n cap,.int .i64 n,.func (.func gc) #[] #[]] w fun e w'=>e= .returned (.tuple #[])∧
   ∃ l',Ss l l'∧St w0 w' (aA (.slice (some ⟨g,0,none⟩) n cap) l'*F):=by
 have HN:=ac hn;have hent:=hc.ent;have H:=ac h;have HINS:Hid (∀ W (X S R:List Pv),n=(X++(S++R)).length→St w0 W (aA (.slice (some ⟨g,0,none⟩) n cap) (X++(S++R))*F)→∀ ia ib:Int,ia=X.length→ib=(X.length+S.length:Nat)→
   Calls Tryz.prog 230 #[.slice (some ⟨g,0,none⟩) n cap,.int .i64 ia,.int .i64 ib,.func (.func gc) #[] #[]] W fun e w'=>e= .returned (.tuple #[])∧
   ∃ S',Ss S S'∧St w0 w' (aA (.slice (some ⟨g,0,none⟩) n cap) (X++(S'++R))*F)):=ac fun W X S R e hW ia ib h1 h2=>GQ hc X S R e (by omega) hW h1 h2
 have HSYM:Hid (∀ W (X A B R:List Pv),n=(X++(A++(B++R))).length→0<A.length→0<B.length→SrtP A→SrtP B→St w0 W (aA (.slice (some ⟨g,0,none⟩) n cap) (X++(A++(B++R)))*F)→∀ ia im ib:Int,ia=X.length→im=(X.length+A.length:Nat)→ib=(X.length+A.length+B.length:Nat)→
   Calls Tryz.prog 231 #[.slice (some ⟨g,0,none⟩) n cap,.int .i64 ia,.int .i64 im,.int .i64 ib,.func (.func gc) #[] #[]] W fun e w'=>e= .returned (.tuple #[])∧
   ∃ S',Ss (A++B) S'∧St w0 w' (aA (.slice (some ⟨g,0,none⟩) n cap) (X++(S'++R))*F)):=ac fun W X A B R e ha hb hA hB hW ia im ib h1 h2 h3=>GX hc _ w0 W F g n cap X A B R (Nat.le_refl _) ha hb hA hB e (by omega) hW ia im ib h1 h2 h3
 clear hn h;go_enter Tryz.func220,Tryz.ntmps220;go_wp2_with fail
 go_loopw [7,8] (fun va vb wr=>∃ lX X lY:List Pv,va= .int .i64 X.length∧vb= .int .i64 (X.length+20:Nat)∧l=lX++lY∧X.length=lX.length∧Cont 20 lX X∧St w0 wr (aA (.slice (some ⟨g,0,none⟩) n cap) (X++lY)*F)) (fun va _ _=>n-(intOf va).toNat)
 case atStart=>exact⟨[],[],l,by simp,by simp,by simp,rfl,Cont.nil 20,H.out⟩
 case round=>
  clear H;obtain⟨lX,X,lY,rfl,rfl,hl,hX,hC,hst⟩:=hrel;have hlen:=congrArg List.length hl;rw[← HN.out,ae] at hlen;have HST:=ac hst
  by_cases hle:X.length+20≤n
  ·have hli:((X.length+20:Nat):Int)≤n:=by omega
   have e1:lY=lY.take 20++lY.drop 20:=(eQ _ _).symm;have l20:(lY.take 20).length=20:=by rw[aJ];omega
   have HC:Hid (∀ W,St w0 W (aA (.slice (some ⟨g,0,none⟩) n cap) (X++lY)*F)→∀ ia ib:Int,ia=X.length→ib=(X.length+20:Nat)→Calls Tryz.prog 230 #[.slice (some ⟨g,0,none⟩) n cap,.int .i64 ia,.int .i64 ib,.func (.func gc) #[] #[]] W fun e w'=>e= .returned (.tuple #[])∧
     ∃ S',Ss (lY.take 20) S'∧St w0 w' (aA (.slice (some ⟨g,0,none⟩) n cap) (X++(S'++lY.drop 20))*F)):=ac fun W hW ia ib h1 h2=>
    HINS.out W X (lY.take 20) (lY.drop 20) (by rw[← e1,ae];omega) (by rw[← e1];exact hW) ia ib h1 (by rw[l20];exact h2)
   have HL:=ac hl;have HX:=ac hX;have HCC:=ac hC;have HLEN:=ac hlen;have HE:=ac e1;have HL20:=ac l20;clear hst hl hX hC hlen e1 l20;have HXL:=ac (rfl:X.length=X.length);generalize hxl:X.length=xl at*
   have HXE:=ac hxl;clear hxl;go_wp2_with (go_at_call 230;refine(HC.out _ HST.out _ _ rfl (by first | rfl | omega)).mono ?_;rintro e w1 ⟨rfl,S',q1,h1⟩;have HS1:=ac (And.intro q1 h1);clear h1 q1);obtain⟨q1,h1⟩:=HS1.out;have hsl:S'.length=20:=by rw[q1.len,HL20.out]
   refine⟨⟨lX++lY.take 20,X++S',lY.drop 20,congrArg (Value.int .i64) (by rw[ae,HXE.out,hsl];omega),congrArg (Value.int .i64) (by rw[ae,HXE.out,hsl];omega),by rw[List.append_assoc,← HE.out];exact HL.out,by rw[ae,ae,hsl,HL20.out,HXE.out,HX.out],HCC.out.more HL20.out q1,by rw[List.append_assoc];exact h1⟩,by simp [intOf];omega⟩
  ·have hli:¬ ((X.length+20:Nat):Int)≤n:=by omega
   have hY:lY.length≤20:=by omega
   have hnI:(n:Int)=(X.length+lY.length:Nat):=by omega
   have HC:Hid (∀ W,St w0 W (aA (.slice (some ⟨g,0,none⟩) n cap) (X++lY)*F)→∀ ia ib:Int,ia=X.length→ib=(n:Nat)→Calls Tryz.prog 230 #[.slice (some ⟨g,0,none⟩) n cap,.int .i64 ia,.int .i64 ib,.func (.func gc) #[] #[]] W fun e w'=>e= .returned (.tuple #[])∧
     ∃ S',Ss lY S'∧St w0 w' (aA (.slice (some ⟨g,0,none⟩) n cap) (X++S')*F)):=ac fun W hW ia ib h1 h2=>by
    have:=HINS.out W X lY [] (by simp only[ae,bD];omega) (by simpa using hW) ia ib h1 (by rw[h2];exact hnI);simpa using this
   have HL:=ac hl;have HCC:=ac hC;have HY:=ac hY;clear hst hl hX hC hlen hY hnI;generalize hxl:X.length=xl at*
   have HXE:=ac hxl;clear hxl;go_wp2_with (go_at_call 230;refine(HC.out _ HST.out _ _ rfl (by first | rfl | omega)).mono ?_;rintro e w1 ⟨rfl,S',q1,h1⟩;have HS1:=ac (And.intro q1 h1);clear h1 q1);have hBk:Bk 20 l (X++S'):=by rw[HL.out];exact HCC.out _ _ (.last HY.out HS1.out.1)
   have HBK:=ac hBk;have HS2:=ac HS1.out.2;clear hBk HC HS1 HST HL HCC HY HXE
   go_loopw [6,7,8,9] (fun vs va vb vm wr=>∃ (bs:Nat) (D:List Pv),vs= .int .i64 bs∧0<bs∧bs≤2*n+20∧Bk bs l D∧St w0 wr (aA (.slice (some ⟨g,0,none⟩) n cap) D*F)) (fun vs _ _ _ _=>n-(intOf vs).toNat)
   case atStart=>exact⟨20,X++S',rfl,by omega,by omega,HBK.out,HS2.out⟩
   case round=>
    clear HBK HS2 HINS;obtain⟨bs,D,rfl,hb0,hbn,hBk,hst⟩:=hrel
    by_cases hlt:bs<n
    ·have hlti:(bs:Int)<n:=by omega
     have HBK:=ac hBk;have HST:=ac hst;clear hBk hst;obtain⟨b2,hb2⟩:∃ b2,2*bs=b2:=⟨_,rfl⟩;have hb2i:(2:Int)*bs=(b2:Int):=by omega
     have hb2j:(bs:Int)*2=(b2:Int):=by omega
     have hb26:b2≤1000000:=by omega
     have HB2:=ac hb2;clear hb2;go_wp2_with fail
     go_loopw [7,8] (fun va vb wr=>∃ lX X lY Y:List Pv,va= .int .i64 X.length∧vb= .int .i64 (X.length+b2:Nat)∧l=lX++lY∧X.length=lX.length∧Cont b2 lX X∧Bk bs lY Y∧St w0 wr (aA (.slice (some ⟨g,0,none⟩) n cap) (X++Y)*F)) (fun va _ _=>n-(intOf va).toNat)
     case atStart=>exact⟨[],[],l,D,by simp,by simp,by simp,rfl,Cont.nil b2,HBK.out,HST.out⟩
     case round=>
      clear HBK HST;obtain⟨lX,X,lY,Y,rfl,rfl,hl,hX,hC,hBk,hst⟩:=hrel;have hlen:=congrArg List.length hl;rw[← HN.out,ae] at hlen;have hYl:=hBk.len;have hb2:=HB2.out
      by_cases hle:X.length+b2≤n
      ·obtain⟨l1,l2,l3,d1,d2,d3,rfl,rfl,e1,e2,s1,s2,k3⟩:=hBk.two (by omega);rw[ae,ae] at hlen;have e2':l2.length=bs:=by rw[e2];simp only[ae];omega
       have cV:=s1.len;have hd2:=s2.len;have hd3:=k3.len;have hli:((X.length+b2:Nat):Int)≤n:=by omega
       have hmid:(X.length:Int)+bs=((X.length+bs:Nat):Int):=by omega
       have HST:=ac hst;have HC:Hid (∀ W,St w0 W (aA (.slice (some ⟨g,0,none⟩) n cap) (X++(d1++(d2++d3)))*F)→∀ ia im ib:Int,ia=X.length→im=(X.length+bs:Nat)→ib=(X.length+b2:Nat)→
         Calls Tryz.prog 231 #[.slice (some ⟨g,0,none⟩) n cap,.int .i64 ia,.int .i64 im,.int .i64 ib,.func (.func gc) #[] #[]] W fun e w'=>e= .returned (.tuple #[])∧
         ∃ S',Ss (l1++l2) S'∧St w0 w' (aA (.slice (some ⟨g,0,none⟩) n cap) (X++(S'++d3))*F)):=ac fun W hW ia im ib h1 h2 h3=>
        (HSYM.out W X d1 d2 d3 (by simp only[ae];omega) (by omega) (by omega) s1.srt s2.srt hW ia im ib h1 (by rw[h2,cV,e1]) (by rw[h3,cV,hd2,e1,e2'];omega)).mono fun e w' ⟨r1,S',r2,r3⟩=>⟨r1,S',Ss.two s1 s2 r2,r3⟩
       have HL:=ac hl;have HX:=ac hX;have HCC:=ac hC;have HK3:=ac k3;have HLL:Hid ((l1++l2).length=b2):=ac (by rw[ae];omega);clear hl hX hC hlen hst hBk hYl e1 e2 e2' s1 s2 k3 cV hd2 hd3 hb2;generalize hxl:X.length=xl at*
       obtain⟨xm,hxm⟩:∃ xm,xl+bs=xm:=⟨_,rfl⟩;obtain⟨xb,hxb⟩:∃ xb,xl+b2=xb:=⟨_,rfl⟩;simp only[hxb] at hli hle ⊢;rw[hxm] at hmid;have HXE:=ac hxl;have HXM:=ac hxm;have HXB:=ac hxb;have hxb3:(xb:Int)+b2≤3000000:=by omega
       have hxm6:xm≤1000000:=by omega
       clear hxl hxm hxb;go_wp2_with (go_at_call 231;refine(HC.out _ HST.out _ _ _ rfl (by rw[HXM.out]) (by rw[HXB.out])).mono ?_;rintro e w1 ⟨rfl,S',q1,h1⟩;have HS1:=ac (And.intro q1 h1);clear h1 q1);obtain⟨q1,h1⟩:=HS1.out;have hsl:S'.length=b2:=by rw[q1.len,HLL.out]
       have hxb:=HXB.out;refine⟨⟨lX++(l1++l2),X++S',l3,d3,congrArg (Value.int .i64) (by rw[ae,HXE.out,hsl];omega),congrArg (Value.int .i64) (by rw[ae,HXE.out,hsl];omega),by rw[HL.out];simp,by rw[ae,ae,hsl,HLL.out,HXE.out,HX.out],HCC.out.more HLL.out q1,HK3.out,by rw[List.append_assoc];exact h1⟩,by simp [intOf];omega⟩
      ·have hli:¬ ((X.length+b2:Nat):Int)≤n:=by omega
       by_cases hm:X.length+bs<n
       ·obtain⟨l1,l2,l3,d1,d2,d3,rfl,rfl,e1,e2,s1,s2,k3⟩:=hBk.two (by omega);rw[ae,ae] at hlen;simp only[ae] at e2;have e3:l3=[]:=bC (by omega);subst e3;have e4:d3=[]:=bC (by rw[k3.len];rfl);subst e4;rw[bD] at hlen;have cV:=s1.len;have hd2:=s2.len;have hmi:((X.length+bs:Nat):Int)<n:=by omega
        have hmid:(X.length:Int)+bs=((X.length+bs:Nat):Int):=by omega
        have HST:=ac hst;have HC:Hid (∀ W,St w0 W (aA (.slice (some ⟨g,0,none⟩) n cap) (X++(d1++(d2++[])))*F)→∀ ia im ib:Int,ia=X.length→im=(X.length+bs:Nat)→ib=(n:Nat)→
          Calls Tryz.prog 231 #[.slice (some ⟨g,0,none⟩) n cap,.int .i64 ia,.int .i64 im,.int .i64 ib,.func (.func gc) #[] #[]] W fun e w'=>e= .returned (.tuple #[])∧
          ∃ S',Ss (l1++l2) S'∧St w0 w' (aA (.slice (some ⟨g,0,none⟩) n cap) (X++S')*F)):=ac fun W hW ia im ib h1 h2 h3=>
         (HSYM.out W X d1 d2 [] (by simp only[ae,bD];omega) (by omega) (by omega) s1.srt s2.srt hW ia im ib h1 (by rw[h2,cV,e1]) (by rw[h3,cV,hd2,e1];omega)).mono fun e w' ⟨r1,S',r2,r3⟩=>⟨r1,S',Ss.two s1 s2 r2,by simpa using r3⟩
        have HL:=ac hl;have HCC:=ac hC;have HLL:Hid ((l1++l2).length≤b2):=ac (by rw[ae];omega);clear hl hX hC hlen hst hBk hYl e1 e2 s1 s2 k3 cV hd2 hb2;generalize hxl:X.length=xl at*
        obtain⟨xm,hxm⟩:∃ xm,xl+bs=xm:=⟨_,rfl⟩;obtain⟨xb,hxb⟩:∃ xb,xl+b2=xb:=⟨_,rfl⟩;simp only[hxb] at hli hle ⊢;rw[hxm] at hmid hmi hm;have hxm6:xm≤1000000:=by omega
        have HXM:=ac hxm;have HB26:=HB2;clear hxl hxm hxb;go_wp2_with (go_at_call 231;refine(HC.out _ HST.out _ _ _ rfl (by rw[HXM.out]) rfl).mono ?_;rintro e w1 ⟨rfl,S',q1,h1⟩;have HS1:=ac (And.intro q1 h1);clear h1 q1);obtain⟨q1,h1⟩:=HS1.out;have hb2:=HB2.out;refine⟨⟨b2,X++S',rfl,by omega,by omega,?_,h1⟩,by simp [intOf];omega⟩;have:=HCC.out _ _ (.last HLL.out q1);rw[HL.out];simpa using this
       ·have hmi:¬ ((X.length+bs:Nat):Int)<n:=by omega
        have hmid:(X.length:Int)+bs=((X.length+bs:Nat):Int):=by omega
        have HST:=ac hst;have hone:=hBk.one (by omega);have hxl6:X.length≤n:=by omega
        have HL:=ac hl;have HCC:=ac hC;have HLL:Hid (lY.length≤b2):=ac (by omega);have HONE:=ac hone;clear hl hX hC hlen hst hBk hYl hone hb2;generalize hxl:X.length=xl at*
        obtain⟨xm,hxm⟩:∃ xm,xl+bs=xm:=⟨_,rfl⟩;obtain⟨xb,hxb⟩:∃ xb,xl+b2=xb:=⟨_,rfl⟩;simp only[hxb] at hli hle ⊢;rw[hxm] at hmid hmi hm;have hxm6:xm≤1000000:=by omega
        clear hxl hxm hxb;go_wp2_with fail;have hb2:=HB2.out;refine⟨⟨b2,X++Y,rfl,by omega,by omega,?_,HST.out⟩,by simp [intOf];omega⟩;rw[HL.out];exact HCC.out _ _ (.last HLL.out HONE.out)
    ·have hlti:¬ (bs:Int)<n:=by omega
     have hone:=hBk.one (by rw[← HN.out];omega);have HST:=ac (And.intro hone hst);clear hst hone hBk;go_wp2_with fail
     go_end0
     exact⟨rfl,D,HST.out.1,HST.out.2⟩
theorem xZ {w0 w:World} {F:SProp} {gc:Nat} (hc:CmpG gc) {g n cap:Nat} (l:List Pv) (hn:n=l.length) (hn6:n≤100000)
  (h:St w0 w (aA (.slice (some ⟨g,0,none⟩) n cap) l*F)):
  Calls Tryz.prog 209 #[.slice (some ⟨g,0,none⟩) n cap,.func (.func gc) #[] #[]] w fun e w'=>e= .returned (.tuple #[])∧
   ∃ l',Ss l l'∧St w0 w' (aA (.slice (some ⟨g,0,none⟩) n cap) l'*F):=by
 obtain⟨R,hR⟩:∃ R:Ending→World→Prop,R=fun e w'=>e= .returned (.tuple #[])∧∃ l',Ss l l'∧St w0 w' (aA (.slice (some ⟨g,0,none⟩) n cap) l'*F):=⟨_,rfl⟩
 have hs:=GY hc l hn hn6 h;rw[← hR] at hs ⊢;have HC:=ac hs;have HR:=ac hR;clear hn hn6 h hs hR;go_enter Tryz.func209,Tryz.ntmps209;go_wp2_with (go_at_call 220;refine HC.out.mono ?_;intro e w1 h1;rw[HR.out] at h1;obtain⟨rfl,l',h1⟩:=h1;have HS1:=ac h1;clear h1)
 go_end0
 rw[HR.out];exact⟨rfl,l',HS1.out⟩
end Go.Proofs.YtboflbdniogcdaaGreatDoor
