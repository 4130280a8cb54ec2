/-
  Parts of a proof.
-/
import Derived.Deep.CutRange
import Derived.Laws.Cover3
import Derived.Test.YtboflbdniogcdaaGreatDoorK19
import Derived.Test.YtboflbdniogcdaaGreatDoorK22
set_option linter.unusedVariables false
set_option linter.unusedSimpArgs false
set_option maxRecDepth 100000
set_option maxHeartbeats 100000000
namespace Go.Proofs.YtboflbdniogcdaaGreatDoor
open Go.RowKit Go.Mz
theorem CB (p s:ByteArray) (w:World):
  Calls Tryz.prog 207 #[.string p,.string s] w fun e w'=>e= .returned (.bool (Lib.hasPrefix s.data.toList p.data.toList))∧w'=w:=by
 rw[← Lib.hasPrefix_of_take,← Lib.size_eq,← Lib.size_eq]
 by_cases h:p.size≤s.size
 ·have h2:(p.size:Int)≤s.size:=by omega
  go_enter Tryz.func207,Tryz.ntmps207
  go_wp2
  go_ret;refine⟨?_,rfl⟩;show Ending.returned (Value.bool ((s.extract 0 p.size).toList==p.toList))=_;rw[Lib.extract_toList,Lib.toList_data];simp [h]
 ·have h2:¬ (p.size:Int)≤s.size:=by omega
  go_enter Tryz.func207,Tryz.ntmps207
  go_wp2
  go_ret;refine⟨?_,rfl⟩;show Ending.returned (Value.bool false)=_;simp [h]
theorem CD {l m:List Nat} (hl:Bit l) (hm:Bit m):Lib.hasPrefix (tx m) (tx l)=l.isPrefixOf m:=by
 rw[Lib.hasPrefix,Bool.eq_iff_iff,nB,nB];exact⟨CA hl hm,fun⟨r,h⟩=>⟨tx r,by rw[← cZ,h]⟩⟩
theorem CE {W:List (List Nat)} {u:List Nat} {i:Nat} (h:W[i]? =some u) (hu:∀ v∈W.take i,v≠u):W.findIdx? (fun w=>w==u)=some i:=by
 rw[zg];obtain⟨hi,e⟩:=dJ.1 h;refine⟨hi,by rw[e];simp,fun j hj=> ?_⟩;intro hc;have hc2:W[j]=u:=by simpa using hc
 refine hu W[j] ?_ hc2;rw[List.mem_take_iff_getElem];exact⟨j,by omega,rfl⟩
theorem CG {W:List (List Nat)} {u:List Nat} (hu:∀ v∈W,v≠u):W.findIdx? (fun w=>w==u)=none:=by
 rw[JD];intro x hx;simpa using hu x hx
def oA (r:Nat × (Nat ⊕ Nat)) (p:Nat):Value:=
 match r.2 with
 | .inl i=> .tuple #[.int .i64 i,.int .i64 (p+r.1:Nat),.int .i64 0]
 | .inr e=> .tuple #[.int .i64 0,.int .i64 (p+r.1:Nat),.int .i64 e]
theorem CI {w:World} {W:List (List Nat)} {t:List Nat} {vw:Value} (hr:Reads w 1 vw W.length (W.map aD)) (hb:∀ v∈W,Bit v) (ht:Bit t) (p:Nat) (hp:p≤t.length) (hl:t.length≤1000000000) (hW:W.length≤100000):
  Calls Tryz.prog 184 #[vw,.string ⟨(tx t).toArray⟩,.int .i64 p] w fun e w'=>e= .returned (oA (bG W [] (t.drop p)) p)∧w'=w:=by
 obtain⟨aw,cw,rfl⟩:=hr.sub;generalize hR:bG W [] (t.drop p)=R at*
 have HR:=ac hR;clear hR;have HRD:=ac hr;clear hr;have hsz:(ByteArray.mk (tx t).toArray).size=t.length:=by rw[Lib.size_eq];simp
 have hex:∀ n,p+n≤t.length→(ByteArray.mk (tx t).toArray).extract p (p+n)=⟨(tx ((t.drop p).take n)).toArray⟩:=fun n hn=>by
  rw[ByteArray.extract_mk]
  congr 1
  simp [tx]
 have HEX:=ac hex;clear hex;generalize hsb:ByteArray.mk (tx t).toArray=sb at*
 have HSB:=ac hsb;clear hsb;go_enter Tryz.func184,Tryz.ntmps184;go_wp2_with fail
 go_loop [9] (fun vi=>∃ n:Nat,1≤n∧p+n≤t.length+1∧vi= .int .i64 n∧bG W ((t.drop p).take (n-1)) ((t.drop p).drop (n-1))=R) (fun vi=>t.length+1-p-(intOf vi).toNat)
 case atStart=>exact⟨1,by omega,by omega,rfl,by simpa using HR.out⟩
 case round=>
  obtain⟨n,hn1,hn2,rfl,hrd⟩:=hrel
  by_cases hin:p+n≤t.length
  ·have hdl:n-1<(t.drop p).length:=by rw[bH];omega
   have e1:(t.drop p).drop (n-1)=(t.drop p)[n-1]::(t.drop p).drop n:=by
    rw[cC hdl,show n-1+1=n by omega]
   have e2:(t.drop p).take n=(t.drop p).take (n-1)++[(t.drop p)[n-1]]:=by
    have:=fY (l:=t.drop p) (i:=n-1);rw[show n-1+1=n by omega,ai hdl] at this;exact this
   have hl1:((t.drop p).take (n-1)).length+1=n:=by rw[aJ];omega
   rw[e1,bG,← e2,hl1] at hrd;have hbs:Bit ((t.drop p).take n):=(ht.drop p).take n;have hsl:=HEX.out n hin;have hul:((t.drop p).take n).length=n:=by rw[aJ,bH];omega
   have HNX:=ac (show(t.drop p).take n=(t.drop p).take ((n+1)-1)∧(t.drop p).drop n=(t.drop p).drop ((n+1)-1) from⟨rfl,rfl⟩);have HRD1:=ac hrd;clear hrd e1 e2 hl1;generalize (t.drop p).take n=u at*
   have hpn:(p:Int)+n≤t.length:=by omega
   have hp0:0≤(p:Int)+n:=by omega
   have hune:u≠[]:=fun h=>by rw[h] at hul;simp at hul;omega
   have HUL:=ac hul;clear hul hdl;go_wp2_with fail
   go_loop [11,12] (fun vs vi=>∃ i:Nat,i≤W.length∧vi= .int .i64 i∧vs= .bool ((W.take i).any (fun v=>u.isPrefixOf v))∧∀ v∈W.take i,v≠u) (fun _ vi=>W.length-(intOf vi).toNat)
   case atStart=>exact⟨0,by omega,rfl,rfl,by simp⟩
   case round=>
    obtain⟨i,hi,rfl,rfl,hall⟩:=hrel
    by_cases hiW:i<W.length
    ·obtain⟨g,o,rfl,e1⟩:=HRD.out.at_ hiW;have hx:=ai hiW;have hbv:=hb W[i] (bo _);rw[au,hx] at e1;simp only[cB,aD] at e1;have htk:W.take (i+1)=W.take i++[W[i]]:=by rw[fY,hx];rfl
     have hi2:(i:Int)<W.length:=by omega
     have HX:=ac hx;have HTK:=ac htk;have HALL:=ac hall;clear hx htk hall;generalize W[i]=v at*
     by_cases hvu:v=u
     ·subst hvu;have hF:=HRD1.out;rw[CE HX.out HALL.out] at hF;have HF:=ac hF;clear hF;generalize (W.take i).any (fun x=>v.isPrefixOf x)=b at*
      go_wp2_with fail
      go_ret3
      rw[← HF.out];exact⟨rfl,rfl⟩
     ·have hne:¬ (ByteArray.mk (tx v).toArray).toList=(ByteArray.mk (tx u).toArray).toList:=fun h=>by
       rw[ByteArray.toList_eq,ByteArray.toList_eq] at h;exact hvu (oz hbv hbs h)
      have hneb:((ByteArray.mk (tx v).toArray).toList==tx u)=false:=by
       rw[beq_eq_false_iff_ne,ByteArray.toList_eq];exact fun h=>hvu (oz hbv hbs h)
      have HALL2:=ac (show ∀ x∈W.take (i+1),x≠u from fun x hx=>by
       rw[HTK.out] at hx
       rcases cA.1 hx with hx | hx
       ·exact HALL.out x hx
       ·rw[List.mem_singleton] at hx;rw[hx];exact hvu)
      have HANY:=ac (show(W.take (i+1)).any (fun x=>u.isPrefixOf x)=((W.take i).any (fun x=>u.isPrefixOf x)||u.isPrefixOf v) by rw[HTK.out,zc];simp);generalize (W.take i).any (fun x=>u.isPrefixOf x)=b at*
      cases b
      ·by_cases hv0:v=[]
       ·subst hv0;have hpf:u.isPrefixOf ([]:List Nat)=false:=by
         cases u with
         | nil=>exact absurd rfl hune
         | cons a u=>rfl
        rw[hpf] at HANY;clear hvu hne hneb;have hne2:¬ []=(ByteArray.mk (tx u).toArray).toList:=fun h=>by
         rw[ByteArray.toList_eq] at h;exact hune (by simpa [tx] using h.symm)
        have hne3:(tx u).isEmpty=false:=by
         cases u with
         | nil=>exact absurd rfl hune
         | cons a u=>rfl
        have hst:(ByteArray.mk (tx ([]:List Nat)).toArray)=⟨#[]⟩:=rfl;rw[hst] at e1;go_wp2_with fail
        go_round
        case rel=>exact⟨i+1,by omega,by go_num,by rw[HANY.out];rfl,HALL2.out⟩
        case measure=>simp [intOf];omega
       ·have hve:¬ (ByteArray.mk (tx v).toArray).toList=[]:=fun h=>by
         rw[ByteArray.toList_eq] at h;exact hv0 (by simpa [tx] using h)
        have C:=CB (ByteArray.mk (tx u).toArray) (ByteArray.mk (tx v).toArray) w;rw[CD hbs hbv] at C;have HC:=ac C;clear C;generalize u.isPrefixOf v=pf at*
        generalize ByteArray.mk (tx v).toArray=sv at*
        go_wp2_with fail;refine HC.out.mono ?_;rintro e w' ⟨rfl,rfl⟩;go_wp2_with fail
        go_round
        case rel=>exact⟨i+1,by omega,by go_num,by rw[HANY.out];simp [hve],HALL2.out⟩
        case measure=>simp [intOf];omega
      ·generalize ByteArray.mk (tx v).toArray=sv at*
       go_wp2_with fail
       go_round
       case rel=>exact⟨i+1,by omega,by go_num,by rw[HANY.out];simp,HALL2.out⟩
       case measure=>simp [intOf];omega
    ·obtain rfl:i=W.length:=by omega
     rw[cI] at hall ⊢;have hF:=HRD1.out;rw[CG hall] at hF;simp only at hF;clear hall;have HF:=ac hF;clear hF;generalize W.any (fun v=>u.isPrefixOf v)=b at*
     cases b
     ·have hF:=HF.out;rw[if_neg (by simp)] at hF;have HFF:=ac hF;clear hF HF;go_wp2_with fail
      go_ret3
      rw[← HFF.out];exact⟨rfl,rfl⟩
     ·have hF:=HF.out;rw[if_pos rfl] at hF;have HFF:=ac hF;clear hF HF;go_wp2_with fail
      go_round
      case rel=>exact⟨n+1,by omega,by omega,by go_num,by rw[← HNX.out.1,← HNX.out.2];exact HFF.out⟩
      case measure=>simp [intOf];omega
  ·have hdl:(t.drop p).drop (n-1)=[]:=qe (by rw[bH];omega);rw[hdl,bG,aJ,bH] at hrd;have hpn:¬ (p:Int)+n≤t.length:=by omega
   have HF:=ac hrd;clear hrd;have HE:=ac (show p+min (n-1) (t.length-p)=t.length by omega);go_wp2_with fail
   go_ret3
   rw[← HF.out,oA];simp only;rw[HE.out];exact⟨rfl,trivial⟩
end Go.Proofs.YtboflbdniogcdaaGreatDoor
namespace Go.Mz
abbrev aE:=Nat × List Nat
def aO:List aE→List aE
 | x::y::r=>(x.1+y.1,x.2++y.2)::aO r
 | _=>[]
def bX:List aE→List aE→List aE
 | [],b=>b
 | a,[]=>a
 | x::a,y::b=>if x.1≤y.1 then x::bX a (y::b) else y::bX (x::a) b
termination_by a b=>a.length+b.length
def lv (S:List aE):Nat→List aE
 | 0=>[]
 | k+1=>bX S (aO (lv S k))
def dZ (l:List aE):Prop:=l.Pairwise (fun x y=>x.1≤y.1)
theorem mI (a:List aE):bX a []=a:=by cases a <;> simp [bX]
theorem mJ:∀ (a b:List aE),(bX a b).length=a.length+b.length
 | [],b=>by simp [bX]
 | x::a,[]=>by simp [bX]
 | x::a,y::b=>by
  rw[bX]
  split
  ·rw[aK,mJ a (y::b)];simp;omega
  ·rw[aK,mJ (x::a) b];simp;omega
termination_by a b=>a.length+b.length
theorem ly:∀ (a b:List aE) (z:aE),z∈bX a b→z∈a∨z∈b
 | [],b,z,h=>by simp [bX] at h;exact .inr h
 | x::a,[],z,h=>by simp [bX] at h;exact .inl (by simpa using h)
 | x::a,y::b,z,h=>by
  rw[bX] at h
  split at h
  ·rcases List.mem_cons.1 h with rfl | h
   ·exact .inl (by simp)
   ·rcases ly a (y::b) z h with h | h
    ·exact .inl (by simp [h])
    ·exact .inr h
  ·rcases List.mem_cons.1 h with rfl | h
   ·exact .inr (by simp)
   ·rcases ly (x::a) b z h with h | h
    ·exact .inl h
    ·exact .inr (by simp [h])
termination_by a b=>a.length+b.length
theorem ri:∀ (a b:List aE),dZ a→dZ b→dZ (bX a b)
 | [],b,_,hb=>by simpa [bX] using hb
 | x::a,[],ha,_=>by rw[mI];exact ha
 | x::a,y::b,ha,hb=>by
  have ha2:=ed.1 ha;have hb2:=ed.1 hb;rw[bX]
  split
  ·rename_i hle;refine ed.2 ⟨fun z hz=> ?_,ri a (y::b) ha2.2 hb⟩
   rcases ly _ _ _ hz with h | h
   ·exact ha2.1 z h
   ·rcases List.mem_cons.1 h with rfl | h
    ·exact hle
    ·have:=hb2.1 z h;omega
  ·rename_i hle;refine ed.2 ⟨fun z hz=> ?_,ri (x::a) b ha hb2.2⟩
   rcases ly _ _ _ hz with h | h
   ·rcases List.mem_cons.1 h with rfl | h
    ·omega
    ·have:=ha2.1 z h;omega
   ·exact hb2.1 z h
termination_by a b=>a.length+b.length
theorem lz:∀ l:List aE,(aO l).length=l.length/2
 | []=>by simp [aO]
 | [x]=>by simp [aO]
 | x::y::r=>by rw[aO,aK,lz r];simp;omega
theorem oB:∀ l:List aE,dZ l→dZ (aO l)
 | [],_=>List.Pairwise.nil
 | [x],_=>List.Pairwise.nil
 | x::y::r,h=>by
  have h1:=ed.1 h;have h2:=ed.1 h1.2;rw[aO];refine ed.2 ⟨?_,oB r h2.2⟩;have key:∀ (r:List aE),(∀ z∈r,x.1≤z.1)→(∀ z∈r,y.1≤z.1)→∀ z∈aO r,x.1+y.1≤z.1:=by
   intro r
   induction r using aO.induct with
   | case1 u v r ih=>
    intro hx hy z hz;rw[aO] at hz
    rcases List.mem_cons.1 hz with rfl | hz
    ·have a:=hx u (by simp);have b:=hy v (by simp);show x.1+y.1≤u.1+v.1;omega
    ·exact ih (fun w hw=>hx w (by simp [hw])) (fun w hw=>hy w (by simp [hw])) z hz
   | case2 r hr=>
    intro _ _ z hz;rw[aO] at hz
    ·simp at hz
    ·exact hr
  exact key r (fun z hz=>h1.1 z (by simp [hz])) (fun z hz=>h2.1 z hz)
theorem oC (S:List aE) (h:dZ S):∀ k,dZ (lv S k)
 | 0=>List.Pairwise.nil
 | k+1=>ri _ _ h (oB _ (oC S h k))
theorem rj:∀ (a b:List aE) (m:Nat),dZ a→dZ b→m≤a.length+b.length→∃ s q,s≤a.length∧q≤b.length∧s+q=m∧((bX a b).take m).Perm (a.take s++b.take q)∧
  (0<q→∀ j u z,a[j]? =some u→b[q-1]? =some z→u.1≤z.1→j<s)
 | [],b,m,_,_,hm=>⟨0,m,by simp,by simpa using hm,by omega,by simp [bX],fun _ j u z h=>by simp at h⟩
 | x::a,[],m,_,_,hm=>⟨m,0,by simpa using hm,by simp,by omega,by simp [bX],fun h=>by omega⟩
 | x::a,y::b,0,_,_,_=>⟨0,0,by simp,by simp,by omega,by simp,fun h=>by omega⟩
 | x::a,y::b,m+1,ha,hb,hm=>by
  have ha2:=ed.1 ha;have hb2:=ed.1 hb;rw[bX]
  split
  ·rename_i hle;obtain⟨s,q,h1,h2,h3,h4,h5⟩:=rj a (y::b) m ha2.2 hb (by simp at hm ⊢;omega);refine⟨s+1,q,by simp;omega,h2,by omega,?_,fun hq j u z hu hz hle2=> ?_⟩
   ·rw[iE,iE,dB];exact List.Perm.cons _ h4
   ·cases j with
    | zero=>omega
    | succ j=>have:=h5 hq j u z (by simpa using hu) hz hle2;omega
  ·rename_i hle;obtain⟨s,q,h1,h2,h3,h4,h5⟩:=rj (x::a) b m ha hb2.2 (by simp at hm ⊢;omega);refine⟨s,q+1,h1,by simp;omega,by omega,?_,fun _ j u z hu hz hle2=> ?_⟩
   ·rw[iE,iE];exact(List.Perm.cons _ h4).trans List.perm_middle.symm
   ·rw[ld] at hz
    by_cases hq:0<q
    ·refine h5 hq j u z hu ?_ hle2;obtain⟨r,rfl⟩:∃ r,q=r+1:=⟨q-1,by omega⟩;simpa using hz
    ·obtain rfl:q=0:=by omega
     simp at hz;subst hz;exfalso;cases j with
     | zero=>simp at hu;subst hu;omega
     | succ j=>
      have hm2:u∈a:=aG (by simpa using hu);have:=ha2.1 u hm2;omega
termination_by a b=>a.length+b.length
theorem uS:∀ (l:List aE) (q:Nat),2*q≤l.length→((aO l).take q).flatMap (·.2)=(l.take (2*q)).flatMap (·.2)
 | l,0,_=>by simp
 | [],q+1,h=>by simp at h
 | [x],q+1,h=>by simp at h;omega
 | x::y::r,q+1,h=>by
  rw[aO,iE,show 2*(q+1)=2*q+1+1 by omega,iE,iE];simp only[eZ];rw[uS r q (by simp at h;omega),List.append_assoc]
theorem uT:∀ (l:List aE) (q:Nat) (z:aE),(aO l)[q]? =some z→∃ u v,l[2*q]? =some u∧l[2*q+1]? =some v∧z.1=u.1+v.1
 | [],q,z,h=>by simp [aO] at h
 | [x],q,z,h=>by simp [aO] at h
 | x::y::r,0,z,h=>by simp [aO] at h;subst h;exact⟨x,y,by simp,by simp,rfl⟩
 | x::y::r,q+1,z,h=>by
  rw[aO,cY] at h;obtain⟨u,v,h1,h2,h3⟩:=uT r q z h;exact⟨u,v,by rw[show 2*(q+1)=2*q+1+1 by omega];simpa using h1,by rw[show 2*(q+1)+1=2*q+1+1+1 by omega];simpa using h2,h3⟩
def dT (S:List aE) (k m:Nat):List Nat:=((lv S k).take m).flatMap (·.2)
def lA (S:List aE) (id:Nat→Nat):Prop:=dZ S∧(∀ j u,S[j]? =some u→u.2=[id j])∧∀ i j,i<S.length→j<S.length→id i=id j→i=j
theorem CJ {S:List aE} (hS:dZ S) (k m:Nat) (hm:m≤(lv S (k+1)).length):∃ s q,s≤S.length∧s+q=m∧2*q≤(lv S k).length∧(dT S (k+1) m).Perm ((S.take s).flatMap (·.2)++dT S k (2*q))∧
  (0<q→∀ j u v,S[j]? =some u→v∈(lv S k).take (2*q)→u.1≤v.1→j<s):=by
 rw[lv,mJ] at hm;obtain⟨s,q,h1,h2,h3,h4,h5⟩:=rj S (aO (lv S k)) m hS (oB _ (oC S hS k)) hm;rw[lz] at h2;have h2q:2*q≤(lv S k).length:=by omega
 refine⟨s,q,h1,h3,h2q,?_,fun hq j u v hu hv hle=> ?_⟩
 ·rw[dT,lv];have:=h4.flatMap_right (·.2);rw[jS,uS _ _ h2q] at this;exact this
 ·have hq1:q-1<(aO (lv S k)).length:=by rw[lz];omega
  obtain⟨a,b,ha,hb,hz⟩:=uT (lv S k) (q-1) _ (ai hq1);refine h5 hq j u _ hu (ai hq1) ?_;have hvb:v.1≤b.1:=by
   obtain⟨i,hi,rfl⟩:=zi hv;rw[aJ] at hi;rw[List.getElem_take];have e:2*(q-1)+1=2*q-1:=by omega
   rw[e] at hb;obtain⟨hb1,hb2⟩:=dJ.1 hb
   rcases cf i (2*q-1) with hlt | hge
   ·have:=zj.1 (oC S hS k) i (2*q-1) (by omega) hb1 hlt;rw[hb2] at this;exact this
   ·have:i=2*q-1:=by omega
    subst this;rw[← hb2];exact Nat.le_refl _
  omega
theorem CK {S:List aE} {id:Nat→Nat} (hS:lA S id) {j:Nat} (hj:j<S.length):∀ s,s≤S.length→((S.take s).flatMap (·.2)).count (id j)=if j<s then 1 else 0:=by
 intro s
 induction s with
 | zero=>intro _;simp
 | succ s ih=>
  intro hs;have hs1:s<S.length:=by omega
  rw[List.take_succ_eq_append_getElem hs1,jS,jT,ih (by omega)];have h2:=hS.2.1 s _ (ai hs1);simp only[eZ,List.flatMap_nil,bE];rw[h2]
  by_cases h:j=s
  ·subst h;simp
  ·have hne:¬ id s=id j:=fun e=>h (hS.2.2 j s hj hs1 e.symm)
   rw[zk,List.count_nil];simp only[beq_iff_eq,hne,if_false]
   by_cases h3:j<s
   ·rw[if_pos h3,if_pos (by omega)]
   ·rw[if_neg h3,if_neg (by omega)]
theorem CL {S:List aE} {id:Nat→Nat} (hS:lA S id) {j:Nat} (hj:j<S.length):∀ (k m:Nat),m≤(lv S k).length→0<(dT S k m).count (id j)→∃ v∈(lv S k).take m,(S[j]'hj).1≤v.1:=by
 intro k
 induction k with
 | zero=>intro m _ h;simp [dT,lv] at h
 | succ k ih=>
  intro m hm h;have hmem:id j∈dT S (k+1) m:=JI.1 h;rw[dT,iS] at hmem;obtain⟨v,hv,hjv⟩:=hmem;refine⟨v,hv,?_⟩;have key:∀ k v,v∈lv S k→id j∈v.2→(S[j]'hj).1≤v.1:=by
   intro k
   induction k with
   | zero=>intro v hv;simp [lv] at hv
   | succ k ihk=>
    intro v hv hjv;rw[lv] at hv
    rcases ly _ _ _ hv with h | h
    ·obtain⟨i,hi,rfl⟩:=zi h;have h2:=hS.2.1 i _ (ai hi);rw[h2] at hjv;have e:id j=id i:=by simpa using hjv
     have:=hS.2.2 j i hj hi e;subst this;exact Nat.le_refl _
    ·obtain⟨i,hi,rfl⟩:=zi h;have:∀ (l:List aE) (z:aE),z∈aO l→id j∈z.2→∃ u∈l,id j∈u.2∧u.1≤z.1:=by
      intro l
      induction l using aO.induct with
      | case1 x y r ih2=>
       intro z hz hjz;rw[aO] at hz
       rcases List.mem_cons.1 hz with rfl | hz
       ·rcases cA.1 hjz with h | h
        ·exact⟨x,by simp,h,by show x.1≤x.1+y.1;omega⟩
        ·exact⟨y,by simp,h,by show y.1≤x.1+y.1;omega⟩
       ·obtain⟨u,h1,h2,h3⟩:=ih2 z hz hjz;exact⟨u,by simp [h1],h2,h3⟩
      | case2 r hr=>
       intro z hz;rw[aO] at hz
       ·simp at hz
       ·exact hr
     obtain⟨u,h1,h2,h3⟩:=this _ _ (bo hi) hjv;have:=ihk u h1 h2;omega
  exact key (k+1) v (jo hv) hjv
def dL (S:List aE) (id:Nat→Nat) (k m j:Nat):Nat:=(dT S k m).count (id j)
theorem CM {S:List aE} {id:Nat→Nat} (hS:lA S id) (k m:Nat) (hm:m≤(lv S (k+1)).length):∃ s q,s≤S.length∧s+q=m∧2*q≤(lv S k).length∧
  ∀ j,j<S.length→dL S id (k+1) m j=(if j<s then 1 else 0)+dL S id k (2*q) j∧(s≤j→dL S id k (2*q) j=0):=by
 obtain⟨s,q,h1,h2,h3,h4,h5⟩:=CJ hS.1 k m hm;refine⟨s,q,h1,h2,h3,fun j hj=>⟨?_,fun hsj=> ?_⟩⟩
 ·rw[dL,h4.count_eq,jT,CK hS hj s h1];rfl
 ·rcases fM (dL S id k (2*q) j) with h | h
  ·exact h
  ·exfalso;obtain⟨v,hv,hle⟩:=CL hS hj k (2*q) h3 h;have hq:0<q:=by
    rcases fM q with e | e
    ·subst e;simp at hv
    ·exact e
   have:=h5 hq j _ v (ai hj) hv hle;omega
def dq (n:Nat) (f:Nat→Nat):Nat:=((List.range n).map f).sum
theorem gQ (n:Nat) (f:Nat→Nat):dq (n+1) f=dq n f+f n:=by simp [dq,gX]
theorem oD {n:Nat} {f g:Nat→Nat} (h:∀ j,j<n→f j=g j):dq n f=dq n g:=by
 induction n with
 | zero=>rfl
 | succ n ih=>rw[gQ,gQ,ih (fun j hj=>h j (by omega)),h n (by omega)]
theorem uU (n:Nat) (f g:Nat→Nat):dq n (fun j=>f j+g j)=dq n f+dq n g:=by
 induction n with
 | zero=>rfl
 | succ n ih=>rw[gQ,gQ,gQ,ih];omega
theorem uV (n s c:Nat) (h:s≤n):dq n (fun j=>if j<s then c else 0)=s*c:=by
 induction n with
 | zero => obtain rfl:s=0:=by omega
           simp [dq]
 | succ n ih=>
  rw[gQ]
  by_cases hs:s≤n
  ·rw[ih hs,if_neg (by omega)];omega
  ·obtain rfl:s=n+1:=by omega
   rw[if_pos (by omega),oD (g:=fun _=>c) (fun j hj=>if_pos (by omega))];clear ih h hs;have:∀ n,dq n (fun _=>c)=n*c:=by
    intro n
    induction n with
    | zero=>simp [dq]
    | succ n ih=>rw[gQ,ih,dC]
   rw[this,dC]
theorem CN {S:List aE} {id:Nat→Nat} (hS:lA S id):∀ (k m:Nat),m≤(lv S k).length→(∀ j,j<S.length→dL S id k m j≤k)∧2*dq S.length (fun j=>2^k-2^(k-dL S id k m j))=2^k*m:=by
 intro k
 induction k with
 | zero=>
  intro m hm;have h0:∀ j,dL S id 0 m j=0:=fun j=>by simp [dL,dT,lv]
  simp [lv] at hm;subst hm;refine⟨fun j _=>by rw[h0];exact Nat.le_refl _,?_⟩;rw[oD (g:=fun _=>0) (fun j _=>by rw[h0,jP,du])];have:∀ n,dq n (fun _=>0)=0:=fun n=>by
   induction n with
   | zero=>rfl
   | succ n ih=>rw[gQ,ih]
  rw[this]
 | succ k ih=>
  intro m hm;obtain⟨s,q,h1,h2,h3,h4⟩:=CM hS k m hm;obtain⟨i1,i2⟩:=ih (2*q) h3;refine⟨fun j hj=> ?_,?_⟩
  ·have:=(h4 j hj).1;have:=i1 j hj;split at* <;> omega
  ·have e:dq S.length (fun j=>2^(k+1)-2^(k+1-dL S id (k+1) m j))=dq S.length (fun j=>(if j<s then 2^k else 0)+(2^k-2^(k-dL S id k (2*q) j))):=by
    refine oD fun j hj=> ?_
    obtain⟨c1,c2⟩:=h4 j hj;have hk:=i1 j hj
    by_cases hjs:j<s
    ·rw[if_pos hjs] at c1 ⊢;rw[c1,show k+1-(1+dL S id k (2*q) j)=k-dL S id k (2*q) j by omega,df];have:2^(k-dL S id k (2*q) j)≤2^k:=dX (by decide) (by omega);omega
    ·rw[if_neg hjs] at c1 ⊢;have:=c2 (by omega);rw[c1,this];simp
   rw[e,uU,uV _ _ _ h1,mb,i2,df];have e2:2^k*(2*q)=2*(2^k*q):=by rw[mc]
   have e3:2^k*2*m=2*(2^k*s)+2*(2^k*q):=by rw[← h2,mb,jp (2^k) 2,iz,iz]
   rw[e2,e3,jp s]
theorem CO (S:List aE) (hn:1≤S.length):∀ k,2*S.length≤(lv S (k+1)).length+1+(S.length-1)/2^k:=by
 intro k
 induction k with
 | zero=>rw[lv,lv];simp [aO,mI];omega
 | succ k ih=>
  rw[lv,mJ,lz,df,← ny];omega
theorem uW {S:List aE} {id:Nat→Nat} (hS:lA S id) (h2:2≤S.length) (k:Nat) (hk:S.length≤2^(k+1)):
  2*S.length-2≤(lv S (k+1)).length∧(∀ j,j<S.length→1≤dL S id (k+1) (2*S.length-2) j∧dL S id (k+1) (2*S.length-2) j≤k+1)∧
  dq S.length (fun j=>2^(k+1-dL S id (k+1) (2*S.length-2) j))=2^(k+1):=by
 have hl:=CO S (by omega) k;have hd:(S.length-1)/2^k<2:=by
  rw[JB (JJ (by simp)),jp,← df];omega
 have hm:2*S.length-2≤(lv S (k+1)).length:=by omega
 obtain⟨c1,c2⟩:=CN hS (k+1) (2*S.length-2) hm;have hle:∀ j,j<S.length→2^(k+1-dL S id (k+1) (2*S.length-2) j)≤2^(k+1):=fun j _=>dX (by decide) (by omega)
 have hsum:dq S.length (fun j=>2^(k+1)-2^(k+1-dL S id (k+1) (2*S.length-2) j))+dq S.length (fun j=>2^(k+1-dL S id (k+1) (2*S.length-2) j))=S.length*2^(k+1):=by
  rw[← uU,oD (g:=fun j=>if j<S.length then 2^(k+1) else 0) (fun j hj=>by rw[if_pos hj];have:=hle j hj;omega),uV _ _ _ (Nat.le_refl _)]
 generalize hc:dL S id (k+1) (2*S.length-2)=c at*
 have hK:dq S.length (fun j=>2^(k+1-c j))=2^(k+1):=by
  obtain⟨n,hn⟩:∃ n,S.length=n+1:=⟨S.length-1,by omega⟩;rw[hn] at c2 hsum ⊢;rw[show 2*(n+1)-2=2*n by omega,mc] at c2;rw[dC,jp n] at hsum;omega
 refine⟨hm,fun j hj=>⟨?_,c1 j hj⟩,hK⟩
 rcases fM (c j) with h0 | h0
 ·exfalso;have split:∀ n,(∀ i,i<n→1≤2^(k+1-c i))→∀ j,j<n→2≤n→2^(k+1-c j)+1≤dq n (fun i=>2^(k+1-c i)):=by
   intro n
   induction n with
   | zero=>intro _ j hj;omega
   | succ n ih=>
    intro h1 j hj h2;rw[gQ]
    rcases cf j n with hjn | hjn
    ·have hn:=h1 n (by omega);have hge:2^(k+1-c j)≤dq n (fun i=>2^(k+1-c i)):=by
      clear ih h1 h2 hj hn
      induction n with
      | zero=>omega
      | succ n ih2=>
       rw[gQ]
       rcases cf j n with h | h
       ·exact cX (ih2 h) (p9 _ _)
       ·obtain rfl:j=n:=by omega
        omega
     omega
    ·obtain rfl:j=n:=by omega
     have h0:1≤dq j (fun i=>2^(k+1-c i)):=by
      obtain⟨m,rfl⟩:∃ m,j=m+1:=⟨j-1,by omega⟩;rw[gQ];have:=h1 m (by omega);omega
     omega
  have:=split S.length (fun i _=>Nat.one_le_two_pow) j hj h2;rw[hK,h0] at this;simp at this;omega
 ·exact h0
def dM (x:aE):List aE→List aE
 | []=>[x]
 | y::r=>if x.1≤y.1 then x::y::r else y::dM x r
def il (l:List aE):List aE:=l.foldr dM []
theorem CS (x:aE):∀ (l:List aE) (z:aE),z∈dM x l↔z=x∨z∈l:=by
 intro l
 induction l with
 | nil=>intro z;simp [dM]
 | cons y r ih=>
  intro z;rw[dM]
  split
  ·simp
  ·rw[List.mem_cons,ih,List.mem_cons]
   constructor
   ·rintro(h | h | h)
    ·exact .inr (.inl h)
    ·exact .inl h
    ·exact .inr (.inr h)
   ·rintro(h | h | h)
    ·exact .inr (.inl h)
    ·exact .inl h
    ·exact .inr (.inr h)
theorem CT (x:aE):∀ l:List aE,(dM x l).Perm (x::l):=by
 intro l
 induction l with
 | nil=>exact mf _
 | cons y r ih=>
  rw[dM]
  split
  ·exact mf _
  ·exact(List.Perm.cons y ih).trans (List.Perm.swap x y r)
theorem CU (x:aE):∀ l:List aE,dZ l→dZ (dM x l):=by
 intro l
 induction l with
 | nil=>intro _;simp [dM,dZ]
 | cons y r ih=>
  intro h;have h2:=ed.1 h;rw[dM]
  split
  ·rename_i hle;refine ed.2 ⟨fun z hz=> ?_,h⟩
   rcases List.mem_cons.1 hz with rfl | hz
   ·exact hle
   ·have:=h2.1 z hz;omega
  ·rename_i hle;refine ed.2 ⟨fun z hz=> ?_,ih h2.2⟩
   rcases(CS x r z).1 hz with rfl | hz
   ·omega
   ·exact h2.1 z hz
theorem oE:∀ l:List aE,dZ (il l)
 | []=>List.Pairwise.nil
 | x::l=>CU x _ (oE l)
theorem mK:∀ l:List aE,(il l).Perm l
 | []=>mf _
 | x::l=>(CT x _).trans (List.Perm.cons x (mK l))
theorem CW (x:aE) (w:Nat):∀ l:List aE,(dM x l).filter (fun z=>z.1==w)=if x.1=w then x::l.filter (fun z=>z.1==w) else l.filter (fun z=>z.1==w):=by
 intro l
 induction l with
 | nil=>by_cases h:x.1=w <;> simp [dM,h]
 | cons y r ih=>
  rw[dM]
  split
  ·by_cases h:x.1=w
   ·rw[if_pos h,cT,if_pos (by simpa using h)]
   ·rw[if_neg h,cT,if_neg (by simpa using h)]
  ·rename_i hle;rw[cT,ih,cT (xs:=r)]
   by_cases h:x.1=w
   ·rw[if_pos h,if_pos h,if_neg (by simp;omega),if_neg (by simp;omega)]
   ·rw[if_neg h,if_neg h]
theorem uX (w:Nat):∀ l:List aE,(il l).filter (fun z=>z.1==w)=l.filter (fun z=>z.1==w)
 | []=>rfl
 | x::l=>by
  show(dM x (il l)).filter _=_;rw[CW,uX w l,cT]
  by_cases h:x.1=w
  ·rw[if_pos h,if_pos (by simpa using h)]
  ·rw[if_neg h,if_neg (by simpa using h)]
theorem CX:∀ (a b:List aE),dZ a→dZ b→(∀ w,a.filter (fun z=>z.1==w)=b.filter (fun z=>z.1==w))→a=b:=by
 intro a
 induction a with
 | nil=>
  intro b _ _ h;cases b with
  | nil=>rfl
  | cons y b=>have:=h y.1;simp at this
 | cons x a ih=>
  intro b ha hb h;cases b with
  | nil=>have:=h x.1;simp at this
  | cons y b=>
   have ha2:=ed.1 ha;have hb2:=ed.1 hb;have hxb:x∈y::b:=by
    have:x∈(x::a).filter (fun z=>z.1==x.1):=by simp
    rw[h] at this;exact(jw.1 this).1
   have hya:y∈x::a:=by
    have:y∈(y::b).filter (fun z=>z.1==y.1):=by simp
    rw[← h] at this;exact(jw.1 this).1
   have hw:x.1=y.1:=by
    have h1:y.1≤x.1:=by
     rcases List.mem_cons.1 hxb with e | e
     ·rw[e];exact Nat.le_refl _
     ·exact hb2.1 x e
    have h2:x.1≤y.1:=by
     rcases List.mem_cons.1 hya with e | e
     ·rw[e];exact Nat.le_refl _
     ·exact ha2.1 y e
    omega
   have hxy:x=y:=by
    have:=h x.1;rw[cT,cT,if_pos (by simp),if_pos (by simp [hw])] at this;exact(List.cons.inj this).1
   subst hxy;rw[ih b ha2.2 hb2.2 fun w=> ?_];have:=h w;rw[cT,cT] at this
   by_cases hx:x.1=w
   ·rw[if_pos (by simpa using hx),if_pos (by simpa using hx)] at this;exact(List.cons.inj this).2
   ·rw[if_neg (by simpa using hx),if_neg (by simpa using hx)] at this;exact this
theorem CY {l l':List aE} (h1:dZ l') (h2:∀ w,l'.filter (fun z=>z.1==w)=l.filter (fun z=>z.1==w)):l'=il l:=
 CX _ _ h1 (oE l) fun w=>by rw[h2 w,uX]
theorem CZ (x:aE):∀ (a b:List aE),(∀ z∈a,x.1≤z.1)→dM x (bX a b)=bX (x::a) b:=by
 intro a b
 induction b with
 | nil=>
  intro h;rw[mI,mI];cases a with
  | nil=>rfl
  | cons u a=>rw[dM,if_pos (h u (by simp))]
 | cons y b ih=>
  intro h;rw[bX]
  by_cases hxy:x.1≤y.1
  ·rw[if_pos hxy];cases a with
   | nil=>simp only[bX];rw[dM,if_pos hxy]
   | cons u a=>
    rw[bX]
    split
    ·rw[dM,if_pos (h u (by simp))]
    ·rw[dM,if_pos hxy]
  ·rw[if_neg hxy];have ih:=ih h;cases a with
   | nil=>
    simp only[bX] at ih ⊢;rw[dM,if_neg hxy,ih]
   | cons u a=>
    have hu:=h u (by simp);rw[bX,if_neg (by omega),dM,if_neg hxy,ih]
theorem uY:∀ l:List aE,dZ l→il l=l
 | [],_=>rfl
 | x::l,h=>by
  have h2:=ed.1 h;show dM x (il l)=_;rw[uY l h2.2];cases l with
  | nil=>rfl
  | cons y l=>rw[dM,if_pos (h2.1 y (by simp))]
theorem uZ:∀ (a b:List aE),dZ a→dZ b→il (a++b)=bX a b
 | [],b,_,hb=>by rw[ba,uY b hb];simp [bX]
 | x::a,b,ha,hb=>by
  have h2:=ed.1 ha;show dM x (il (a++b))=_;rw[uZ a b h2.2 hb,CZ x a b h2.1]
open Go.RowKit
def io (n x:Nat):Nat:=if 1≤x∧x<n then 2^(n-x) else 0
def krS (n:Nat) (l:List Nat):Nat:=(l.map (io n)).sum
theorem oF (n x:Nat) (l:List Nat):krS n (x::l)=io n x+krS n l:=by simp [krS]
theorem oG (n:Nat) (l:List Nat):krS (n+1) l=(krS n l+ck l n)*2:=by
 induction l with
 | nil=>simp [krS,ck]
 | cons x l ih=>
  rw[oF,oF,ih];have hc:ck (x::l) n=ck l n+if 1≤n∧x=n then 1 else 0:=by
   rw[ck,ck]
   by_cases h0:n=0
   ·rw[if_pos h0,if_pos h0,if_neg (by omega)]
   ·rw[if_neg h0,if_neg h0,zk]
    by_cases hx:x=n
    ·subst hx;simp only[beq_self_eq_true,if_true];rw[if_pos (show 1≤x∧True from⟨by omega,trivial⟩)]
    ·simp [hx]
  rw[hc,io,io]
  by_cases h1:1≤x∧x<n
  ·rw[if_pos h1,if_pos (by omega),if_neg (by omega),show n+1-x=(n-x)+1 by omega,df];omega
  ·by_cases h2:1≤n∧x=n
   ·obtain⟨h2,rfl⟩:=h2;rw[if_neg h1,if_pos (by omega),if_pos ⟨h2,rfl⟩,show x+1-x=1 by omega];omega
   ·rw[if_neg h1,if_neg (by omega),if_neg h2];omega
theorem rk (l:List Nat):∀ n,aU l n=krS n l:=by
 intro n
 induction n with
 | zero=>
  rw[aU]
  induction l with
  | nil=>rfl
  | cons x l ih=>rw[oF,← ih,io,if_neg (by omega)]
 | succ n ih=>rw[aU,ih,oG]
theorem C0 (l:List Nat) (n:Nat):∀ d,krS n l*2^d≤krS (n+d) l:=by
 intro d
 induction d with
 | zero=>simp
 | succ d ih=>
  rw[← ec,oG,df,← iz];exact dW _ (cX ih (p9 _ _))
theorem rm {l:List Nat} (h:krS 31 l=2^31):fullC l=true∧OkC l:=by
 refine⟨by rw[fullC,rk,h];simp,fun n hn=> ?_⟩;have e:(aU l n+ck l n)*2=krS (n+1) l:=by rw[rk,oG]
 have h1:=C0 l (n+1) (30-n);rw[show n+1+(30-n)=31 by omega,h,← e,iz] at h1;have e2:2*2^(30-n)=2^(31-n):=by rw[jp,← df];congr 1;omega
 rw[e2,show(2:Nat)^31=2^n*2^(31-n) by rw[← lZ];congr 1;omega] at h1;exact Nat.le_of_mul_le_mul_right h1 (JJ (by simp))
end Go.Mz
