/-
  Parts of a proof.
-/
import Derived.Deep.CutRange
import Derived.Test.YtboflbdniogcdaaGreatDoorK24
import Derived.Test.YtboflbdniogcdaaGreatDoorK19
set_option linter.unusedVariables false
set_option linter.unusedSimpArgs false
set_option maxRecDepth 100000
set_option maxHeartbeats 100000000
namespace Go.Proofs.YtboflbdniogcdaaGreatDoor
open Go.RowKit Go.Mz
def cW (l:List Int):List Nat:=l.map Int.toNat
def bL (l:List Int):List (List Nat) × Bool × Nat:=
 if ∃ x∈l,x<0∨30<x then([],false,1) else if OkC (cW l) then(aB (cW l),fullC (cW l),0) else([],false,3)
def gD (l:List Nat):List Nat:=(List.range 31).map (ck l)
def d7 (l:List Nat) (n:Nat) (r:List Nat):List Nat:=(List.range 32).map fun m=>if 0<m∧m<n then aU l m+r.count m else 0
def fi (b:Nat) (e:TypeId) (L:List Nat):SProp:=blk b (.cells (L.map nv).toArray e (0,0))
theorem lB {w0 w:World} {b:Nat} {e:TypeId} {L:List Nat} {F:SProp} (h:St w0 w (fi b e L*F)) {j x:Nat} (hj:L[j]? =some x):w.cell? ⟨b,j,none⟩=some (.int .i64 (x:Int)):=by
 refine h.cell j ?_;simp [hj,nv]
theorem rp {w0 w:World} {b:Nat} {e:TypeId} {L:List Nat} {F:SProp} (h:St w0 w (fi b e L*F)) (j:Nat):w.frozen? ⟨b,j,none⟩=false:=St.free h j
theorem rq {w0 w:World} {b:Nat} {e:TypeId} {L:List Nat} {F:SProp} (h:St w0 w (fi b e L*F)) (j x:Nat):St w0 (w.setCell ⟨b,j,none⟩ (.int .i64 (x:Int))) (fi b e (L.set j x)*F):=by
 have:=St.set h j (.int .i64 (x:Int));rw[l7,show(.int .i64 (x:Int):Value)=nv x from rfl,← ez] at this;exact this
theorem C6 (l:List Nat) {c:Nat} (h0:0<c) (h:c≤30):(gD l).set c (ck l c+1)=gD (l++[c]):=by
 apply jU
 ·simp [gD]
 ·intro i h1 h2;rw[s8];simp only[gD,gs,lg,ck,jT,qf]
  by_cases hc:c=i
  ·subst hc;have hc0:¬ c=0:=by omega
   simp [hc0]
  ·have:(c==i)=false:=by simp [hc]
   simp [hc,this]
theorem C7 (l:List Nat):gD (l++[0])=gD l:=by
 apply iU;intro i _;simp only[ck,jT,qf]
 by_cases hc:i=0
 ·simp [hc]
 ·have:(0==i)=false:=by simp;omega
  simp [hc,this]
theorem rt (l:List Nat) {c:Nat} (h:c≤30):(gD l)[c]? =some (ck l c):=by
 rw[gD,au,fs (by omega)];rfl
theorem u5 (l:List Nat) (c:Nat):ck l c≤l.length:=by
 unfold ck;split
 ·omega
 ·exact zm
theorem C8 (l:List Nat):d7 l 1 []=List.replicate 32 0:=by
 apply jU
 ·simp [d7]
 ·intro i h1 h2;simp only[d7,gs,lg,JN];rw[if_neg (by omega)]
theorem C9 (l:List Nat) {n:Nat} (h0:0<n) (h:n≤30):(d7 l n []).set n (aU l n)=d7 l (n+1) []:=by
 apply jU
 ·simp [d7]
 ·intro i h1 h2;rw[s8];simp only[d7,gs,lg,List.count_nil,fL]
  by_cases hc:n=i
  ·subst hc;simp [h0]
  ·have:(0<i∧i<n+1)↔(0<i∧i<n):=by omega
   simp [hc,this]
theorem Da (l:List Nat) (r:List Nat) {n m:Nat} (h0:0<m) (h1:m<n) (h:m≤31):(d7 l n r)[m]? =some (aU l m+r.count m):=by
 rw[d7,au,fs (by omega),cB,if_pos ⟨h0,h1⟩]
theorem Db (l r:List Nat) {c:Nat} (h0:0<c) (h:c≤30):(d7 l 31 r).set c (aU l c+r.count c+1)=d7 l 31 (r++[c]):=by
 apply jU
 ·simp [d7]
 ·intro i h1 h2;rw[s8];simp only[d7,gs,lg,jT,qf]
  by_cases hc:c=i
  ·subst hc;have:(0<c∧c<31):=by omega
   simp [this];omega
  ·have:(c==i)=false:=by simp [hc]
   simp [hc,this]
theorem Dd (l r:List Nat):d7 l 31 (r++[0])=d7 l 31 r:=by
 apply iU;intro i _;simp only[jT,qf]
 by_cases hc:0<i∧i<31
 ·have:(0==i)=false:=by simp;omega
  simp [this]
 ·rw[if_neg hc,if_neg hc]
theorem De {w0 w:World} {F:SProp} (h:St w0 w F) (lens:List Int) {v:Value} (hv:Stb w0 F (fun w=>Reads w 1 v lens.length (lens.map iv))) (hl:lens.length≤100000):
  Calls Tryz.prog 208 #[v] w fun e w'=>∃ v',e= .returned (.tuple #[v',.bool (bL lens).2.1,.int .i64 (bL lens).2.2])∧
   St w0 w' (own 9 1 v' (bL lens).1.length ((bL lens).1.map aD)*F):=by
 obtain⟨av,cv,rfl⟩:=(hv w h).sub;have H:=ac h;clear h;have HV:=ac hv;clear hv;go_enter Tryz.func208,Tryz.ntmps208;go_wp2_with fail;have h1:St w0 (w.alloc (.cells ((List.replicate 31 0).map nv).toArray 307 (0,0))) (fi w.heap.size 307 (List.replicate 31 0)*F):=H.out.alloc _;have H1:=ac h1;clear h1
 go_loopw [16] (fun i wr=>∃ k:Nat,k≤lens.length∧i= .int .i64 k∧(∀ x∈lens.take k,0≤x∧x≤30)∧St w0 wr (fi w.heap.size 307 (gD (cW (lens.take k)))*F)) (fun i _=>lens.length-(intOf i).toNat)
 case atStart=>exact⟨0,by omega,rfl,by simp,H1.out⟩
 case round=>
  obtain⟨k,hk,rfl,hall,hst⟩:=hrel;generalize w.heap.size=b1 at*
  by_cases hkn:k<lens.length
  ·obtain⟨g,off,rfl,hc⟩:=(HV.out wr hst.right).at_ hkn;have hx:=ai hkn;have HTK:=ac (show lens.take (k+1)=lens.take k++[lens[k]] from List.take_succ_eq_append_getElem hkn);have hmem:lens[k]∈lens:=bo hkn;generalize lens[k]=x at*
   have hc':(lens.map iv)[k]? =some (.int .i64 x):=by simp [hx,iv]
   rw[hc'] at hc;clear hc' hx;have hk1:(k:Int)<lens.length:=by omega
   have HALL:=ac hall;clear hall
   by_cases hbad:x<0∨30<x
   ·have HR:=ac (show bL lens=([],false,1) by rw[bL,if_pos ⟨x,hmem,hbad⟩]);have HS:=ac hst;clear hst
    rcases hbad with hb | hb
    ·go_wp2_with fail
     go_ret3
     refine⟨.slice none 0 0,by rw[HR.out];rfl,?_⟩;rw[HR.out];exact St.own_nil _ _ HS.out.right
    ·have hb0:¬ x<0:=by omega
     go_wp2_with fail
     go_ret3
     refine⟨.slice none 0 0,by rw[HR.out];rfl,?_⟩;rw[HR.out];exact St.own_nil _ _ HS.out.right
   obtain⟨c,rfl⟩:∃ c:Nat,x=c:=⟨x.toNat,by omega⟩;have hc30:c≤30:=by omega
   have HNT:=ac (show cW (lens.take (k+1))=cW (lens.take k)++[c] by rw[HTK.out];simp [cW]);have HAL2:=ac (show ∀ x∈lens.take (k+1),0≤x∧x≤30 by
    intro y hy;rw[HTK.out,cA,List.mem_singleton] at hy
    rcases hy with hy | rfl
    ·exact HALL.out y hy
    ·omega)
   have hcl:=u5 (cW (lens.take k)) c;have hcl2:(cW (lens.take k)).length≤100000:=by simp [cW];omega
   have hi0:¬ (c:Int)<0:=by omega
   have hi1:¬ (30:Int)<c:=by omega
   by_cases hz:c=0
   ·subst hz;have HS:=ac hst;clear hst;go_wp2_with fail;refine⟨⟨k+1,by omega,by go_num,HAL2.out,?_⟩,by simp [intOf];omega⟩;rw[HNT.out,C7];exact HS.out
   ·have e0:=lB hst (rt (cW (lens.take k)) hc30);have f0:=rp hst c;have hset:=rq hst c (ck (cW (lens.take k)) c+1);rw[C6 _ (by omega) hc30,← HNT.out] at hset;have HSET:=ac hset;clear hset hst;generalize ck (cW (lens.take k)) c=y at*
    have hi2:(0:Int)<c:=by omega
    have hi3:(c:Int)<31:=by omega
    have hsy:IntKind.i64.wrap ((y:Int)+1)=((y+1:Nat):Int):=by rw[IntWalk.i64_in _ (by omega)];rfl
    go_wp2_with fail;refine⟨⟨k+1,by omega,by go_num,HAL2.out,?_⟩,by simp [intOf];omega⟩;have:=HSET.out;simpa using this
  ·obtain rfl:k=lens.length:=by omega
   rw[cI] at hall hst;have HS:=ac hst;clear hst;have HALL:=ac hall;clear hall;go_wp2_with fail;have hlN:(cW lens).length=lens.length:=by simp [cW]
   generalize hl0:cW lens=l at*
   have HL0:=ac hl0;clear hl0;have h2:St w0 (wr.alloc (.cells ((List.replicate 32 0).map nv).toArray 308 (0,0))) (fi wr.heap.size 308 (List.replicate 32 0)*(fi b1 307 (gD l)*F)):=HS.out.alloc _;rw[← C8 l] at h2;have H2:=ac h2;clear h2;generalize wr.heap.size=b2 at*
   go_loopw [10,9] (fun vn vc wx=>∃ n:Nat,1≤n∧n≤31∧vn= .int .i64 n∧vc= .int .i64 (aU l n)∧(∀ m,m<n→aU l m+ck l m≤2^m)∧St w0 wx (fi b2 308 (d7 l n [])*(fi b1 307 (gD l)*F))) (fun vn _ _=>31-(intOf vn).toNat)
   case atStart=>exact⟨1,by omega,by omega,rfl,rfl,by
    intro m hm;obtain rfl:m=0:=by omega
    simp [aU,ck],H2.out⟩
   case round=>
    obtain⟨n,hn1,hn2,rfl,rfl,hok,hst⟩:=hrel;have hcb:aU l n≤2^n:=by
     obtain⟨m,rfl⟩:∃ m,n=m+1:=⟨n-1,by omega⟩;have:=hok m (by omega);rw[aU,df];omega
    have hp31:2^n≤2^31:=dX (by decide) hn2
    by_cases hn:n≤30
    ·have hcl:=u5 l n;have e0:=lB (hst.perm (af _ _ _)) (rt l hn);have hset:=rq hst n (aU l n);rw[C9 l (by omega) hn] at hset;have f0:=rp hst n;have c0:∃ y:Nat,wr.cell? ⟨b2,n,none⟩=some (.int .i64 (y:Int)):=by
      refine⟨(d7 l n []).getD n 0,lB hst ?_⟩;rw[List.getD_eq_getElem?_getD];have:n<(d7 l n []).length:=by simp [d7];omega
      rw[ai this];rfl
     obtain⟨y0,c0⟩:=c0;have e1:=lB (hset.perm (af _ _ _)) (rt l hn);have HSET:=ac hset;clear hset hst;have HOK:=ac hok;clear hok;have HCC:=ac (show aU l (n+1)=(aU l n+ck l n)*2 from rfl);have hi1:(n:Int)≤30:=by omega
     have hi2:(n:Int)<31:=by omega
     have hi3:(n:Int)<32:=by omega
     have hi4:(0:Int)≤n:=by omega
     generalize hcd:aU l n=cd at*
     generalize hct:ck l n=ct at*
     have HCD:=ac hcd;clear hcd;have HCT:=ac hct;clear hct;have hs1:IntKind.i64.wrap ((cd:Int)+ct)=(cd:Int)+ct:=IntWalk.i64_in _ (by omega);have hwr:wrap64 ((2:Int)^n)=((2^n:Nat):Int):=by
      have e:((2:Int)^n)=((2^n:Nat):Int):=by simp
      rw[e,wrap64];have:(2:Nat)^31=2147483648:=by decide
      generalize (2:Nat)^n=z at*
      omega
     by_cases hq:cd+ct≤2^n
     ·have hle:(cd:Int)+ct≤wrap64 ((2:Int)^n):=by rw[hwr];omega
      have HWR:=ac hwr;clear hwr;go_wp2_with fail;refine⟨⟨n+1,by omega,by omega,by go_num,by rw[HCC.out];simp,?_,HSET.out⟩,by simp [intOf];omega⟩;intro m hm
      by_cases hmn:m<n
      ·exact HOK.out m hmn
      ·have hmn2:m=n:=by omega
       rw[hmn2,HCD.out,HCT.out];exact hq
     ·have hle:¬ (cd:Int)+ct≤wrap64 ((2:Int)^n):=by rw[hwr];omega
      have HWR:=ac hwr;clear hwr;have HR:=ac (show bL lens=([],false,3) by
       rw[bL,if_neg (by rintro⟨x,hx,h⟩;have:=HALL.out x hx;omega),HL0.out,if_neg (fun ok=>hq (by have:=ok n hn;rwa [HCD.out,HCT.out] at this))])
      go_wp2_with fail
      go_ret3
      refine⟨.slice none 0 0,by rw[HR.out];rfl,?_⟩;rw[HR.out];exact St.own_nil _ _ HSET.out.right.right
    ·obtain rfl:n=31:=by omega
     have HS2:=ac hst;clear hst;have HOK:=ac hok;clear hok;have HCB:=ac hcb;clear hcb;go_wp2_with (at_make;apply ag);have HR:=ac (show bL lens=(aB l,fullC l,0) by
      rw[bL,if_neg (by rintro⟨x,hx,h⟩;have:=HALL.out x hx;omega),HL0.out,if_pos (show OkC l from fun m hm=>HOK.out m (by omega))])
     refine on (iF mF rfl _ _ rfl lens.length rfl rfl rfl rfl HS2.out (by unfold maxLen;omega) (by omega) ?_);intro v3 w3 h3;obtain⟨a3,c3,rfl⟩:=h3.reads.sub;have h3':St w0 w3 (own 9 1 (.slice a3 lens.length c3) lens.length (((aB l).take 0++List.replicate (lens.length-0) []).map aD)*(fi b2 308 (d7 l 31 (l.take 0))*(fi b1 307 (gD l)*F))):=by
      have e:(madeCells (Value.string ⟨#[]⟩).cells (lens.length*1)).toList=((aB l).take 0++List.replicate (lens.length-0) []).map aD:=by
       rw[gW];simp [Value.cells,toList_madeCells_one,aD,tx]
      rw[← e];exact h3
     have H3:=ac h3';clear h3 h3' HS2;have HFU:=ac (show Value.bool ((aU l 31:Int)==2147483648)=Value.bool (fullC l) by
      congr 1
      rw[fullC,Bool.eq_iff_iff];simp;omega)
     have hcl31:aU l 31≤2147483648:=HCB.out;generalize hcd:aU l 31=cd at*
     have HCD:=ac hcd;clear hcd;go_wp2_with fail
     go_loopw [57] (fun i wx=>∃ k:Nat,k≤lens.length∧i= .int .i64 k∧St w0 wx (own 9 1 (.slice a3 lens.length c3) lens.length (((aB l).take k++List.replicate (lens.length-k) []).map aD)*(fi b2 308 (d7 l 31 (l.take k))*(fi b1 307 (gD l)*F)))) (fun i _=>lens.length-(intOf i).toNat)
     case atStart=>exact⟨0,by omega,rfl,H3.out⟩
     case round=>
      obtain⟨k,hk,rfl,hst⟩:=hrel
      by_cases hkn:k<lens.length
      ·obtain⟨g,off,rfl,hc⟩:=(HV.out wr hst.right.right.right).at_ hkn;have hmem:lens[k]∈lens:=bo hkn;have hx:=ai hkn;have hxb:=HALL.out _ hmem;generalize lens[k]=x at*
       clear hmem;obtain⟨c,rfl⟩:∃ c:Nat,x=c:=⟨x.toNat,by omega⟩;have hc':(lens.map iv)[k]? =some (.int .i64 (c:Int)):=by simp [hx,iv]
       rw[hc'] at hc;have hlk:l[k]? =some c:=by rw[← HL0.out,cW,au,hx];rfl
       clear hc' hx;have hgd:l.getD k 0=c:=by rw[List.getD_eq_getElem?_getD,hlk];rfl
       have HTK:=ac (show l.take (k+1)=l.take k++[c] by rw[fY,hlk];rfl);have hwk:(aB l)[k]? =some (ap (aU l c+(l.take k).count c) c):=by
        rw[aB,au,fs (by omega),cB,eM,hgd]
       have hwl:(aB l).length=lens.length:=by rw[aB,bI,jQ,hlN]
       have HCON:=ac (show(((aB l).take k++List.replicate (lens.length-k) []).map aD).set k (aD (ap (aU l c+(l.take k).count c) c))=((aB l).take (k+1)++List.replicate (lens.length-(k+1)) []).map aD by
        rw[← ez]
        congr 1
        rw[fY,hwk,lW _ _ (by rw[aJ,hwl];omega),aJ,hwl];have e2:List.replicate (lens.length-k) ([]:List Nat)=[]::List.replicate (lens.length-(k+1)) []:=by rw[← jr];congr 1;omega
        have e3:k-min k lens.length=0:=by omega
        rw[e2,e3];simp)
       have hk1:(k:Int)<lens.length:=by omega
       have heq0:c=0→(aB l).take (k+1)++List.replicate (lens.length-(k+1)) []=(aB l).take k++List.replicate (lens.length-k) []:=by
        intro h0;rw[fY,hwk,h0];have e2:List.replicate (lens.length-k) ([]:List Nat)=[]::List.replicate (lens.length-(k+1)) []:=by rw[← jr];congr 1;omega
        rw[e2];simp [ap]
       by_cases hz:c=0
       ·have hsame:St w0 wr (own 9 1 (.slice a3 lens.length c3) lens.length (((aB l).take (k+1)++List.replicate (lens.length-(k+1)) []).map aD)*(fi b2 308 (d7 l 31 (l.take (k+1)))*(fi b1 307 (gD l)*F))):=by
         rw[HTK.out,heq0 hz,hz,Dd];exact hst
        clear hwk hwl hgd hlk heq0;subst hz;have HS:=ac hsame;clear hsame hst;go_wp2_with fail;exact⟨⟨k+1,by omega,by go_num,HS.out⟩,by simp [intOf];omega⟩
       ·clear heq0;obtain⟨g3,rfl⟩:=bR hst (by omega);have hcellk:((((aB l).take k++List.replicate (lens.length-k) []).map aD))[k]? =some (aD []):=by
         rw[au,dh (by rw[aJ,hwl];omega),aJ,hwl,eb,if_pos (by omega)];rfl
        clear hwk hwl hgd hlk;have hnx:=Da l (l.take k) (n:=31) (show 0<c by omega) (by omega) (by omega);have hcb:aU l c≤2^30:=by
         have h1:=HOK.out c (by omega);have h2:2^c≤2^30:=dX (by decide) (by omega);omega
        have hcnt:(l.take k).count c≤100000:=cX zm (by rw[aJ];omega);have n0:=lB (hst.perm (af _ _ _)) hnx;have HNX:=ac hnx;clear hnx;have HCK:=ac hcellk;clear hcellk;have HST:=ac hst;clear hst;have hmore:=ac (Db l (l.take k) (show 0<c by omega) (show c≤30 by omega));have hp30:(2:Nat)^30=1073741824:=by decide
        rw[hp30] at hcb;generalize hnv:aU l c+(l.take k).count c=nv0 at*
        have hnvb:nv0≤1100000000:=by omega
        clear hnv hcb hcnt hp30;have hi2:(0:Int)<c:=by omega
        have hi3:(c:Int)<32:=by omega
        have hsy:IntKind.i64.wrap ((nv0:Int)+1)=((nv0+1:Nat):Int):=by rw[IntWalk.i64_in _ (by omega)];rfl
        go_wp2_with fail;refine(C5 HST.out nv0 c (by omega) (by omega) rfl rfl).mono ?_;rintro e w5 ⟨rfl,h5⟩;have fz:=h5.own_free k;have cz:=h5.own_cell HCK.out;have h6:=h5.own_set k (aD (ap nv0 c));rw[HCON.out] at h6;have h6':=h6.perm (af _ _ _);have n1:=lB h6' HNX.out;have f1:=rp h6' c;have h7:=rq h6' c (nv0+1);rw[hmore.out,← HTK.out] at h7;have H7:=ac (h7.perm (af _ _ _));clear h7 h6' h6 h5;simp only[aD] at n1 f1 H7;generalize (ByteArray.mk (tx (ap nv0 c)).toArray)=str at*
        go_wp2_with fail;refine⟨⟨k+1,by omega,by go_num,?_⟩,by simp [intOf];omega⟩;have:=H7.out;simpa using this
      ·obtain rfl:k=lens.length:=by omega
       have hfin:St w0 wr (own 9 1 (.slice a3 lens.length c3) lens.length ((aB l).map aD)*F):=by
        have hwl:(aB l).length=lens.length:=by rw[aB,bI,jQ,hlN]
        rw[du,nC,bE,bU (by omega)] at hst;exact(hst.perm (show _=(fi b2 _ _*fi b1 _ _)*(own 9 1 (.slice a3 lens.length c3) lens.length ((aB l).map aD)*F) by ac_rfl)).right
       have HFN:=ac hfin;clear hfin hst;go_wp2_with fail
       go_ret3
       refine⟨.slice a3 lens.length c3,?_,?_⟩
       ·rw[HR.out];show Ending.returned (.tuple #[.slice a3 lens.length c3,Value.bool ((cd:Int)==2147483648),.int .i64 0])=_;rw[HFU.out];rfl
       ·rw[HR.out,show(aB l).length=lens.length by rw[aB,bI,jQ,hlN]];exact HFN.out
theorem u6q:∀ l:List Nat,Bit l→(∃ p k,Bit p∧l.reverse=p++0::List.replicate k 1)∨∃ k,l.reverse=List.replicate k 1
 | [],_=> .inr ⟨0,rfl⟩
 | b::l,h=>by
  have hl:Bit l:=fun x hx=>h x (qg _ hx)
  have hb:b≤1:=h b (by simp);have hb2:b=0∨b=1:=by omega
  rw[km]
  rcases hb2 with rfl | rfl
  ·exact .inl ⟨l.reverse,0,hl.reverse,rfl⟩
  ·rcases u6q l hl with ⟨p,k,hp,e⟩ | ⟨k,e⟩
   ·exact .inl ⟨p,k+1,hp,by rw[e,List.append_assoc,dB,← ft]⟩
   ·exact .inr ⟨k+1,by rw[e,← ft]⟩
theorem u7 {l:List Nat} (h:Bit l):(∃ p k,Bit p∧l=p++0::List.replicate k 1)∨∃ k,l=List.replicate k 1:=by
 have:=u6q l.reverse h.reverse;rwa [lV] at this
def eo (l:List Nat) (n i:Nat):List (List Nat):=(List.range l.length).map fun j=>if l.getD j 0<n∨(l.getD j 0=n∧j<i) then eM l j else []
theorem u9 (l:List Nat) (n i:Nat):(eo l n i).length=l.length:=by simp [eo]
theorem Df (l:List Nat) (n:Nat):eo l n l.length=eo l (n+1) 0:=by
 apply iU;intro j hj;rw[gJ] at hj;have:(l.getD j 0<n∨(l.getD j 0=n∧j<l.length))↔(l.getD j 0<n+1∨(l.getD j 0=n+1∧j<0)):=by omega
 simp only[this]
theorem Dg (l:List Nat) (n i:Nat) (h:l.getD i 0≠n):eo l n (i+1)=eo l n i:=by
 apply iU;intro j _;have:(l.getD j 0<n∨(l.getD j 0=n∧j<i+1))↔(l.getD j 0<n∨(l.getD j 0=n∧j<i)):=by
  by_cases e:j=i
  ·subst e;omega
  ·omega
 simp only[this]
theorem vg (l:List Nat) (n i:Nat) (hi:i<l.length) (h:l.getD i 0=n):(eo l n i).set i (eM l i)=eo l n (i+1):=by
 apply jU
 ·simp [eo]
 ·intro j h1 h2;rw[s8];simp only[eo,gs,lg]
  by_cases e:i=j
  ·subst e;rw[if_pos rfl,if_pos (by omega)]
  ·rw[if_neg e];have:(l.getD j 0<n∨(l.getD j 0=n∧j<i))↔(l.getD j 0<n∨(l.getD j 0=n∧j<i+1)):=by omega
   simp only[this]
theorem Dh (l:List Nat):eo l 1 0=List.replicate l.length []:=by
 apply jU
 ·simp [eo]
 ·intro j h1 h2;simp only[eo,gs,lg,JN]
  split
  ·rename_i h;have:l.getD j 0=0:=by omega
   rw[eM,this];rfl
  ·rfl
theorem Di (l:List Nat) (h:∀ (j:Nat),l.getD j 0≤30):eo l 31 0=aB l:=by
 apply iU;intro j _;rw[if_pos (by have:=h j;omega)]
theorem vv {l:List Nat} {i n:Nat} (h:l.getD i 0=n):eM l i=ap (aU l n+(l.take i).count n) n:=by rw[eM,h]
theorem oH {l:List Nat} {i c:Nat} (h:l[i]? =some c) (n:Nat):(l.take (i+1)).count n=(l.take i).count n+if c=n then 1 else 0:=by
 rw[fY,h];simp only[Option.toList_some,jT,qf]
 by_cases e:c=n
 ·subst e;simp
 ·have:(c==n)=false:=by simp [e]
  simp [e,this]
theorem Dj {w0 w:World} {F:SProp} (h:St w0 w F) (lens:List Int) {v:Value} (hv:Stb w0 F (fun w=>Reads w 1 v lens.length (lens.map iv))) (hl:lens.length≤100000):
  Calls Tryz.prog 148 #[v] w fun e w'=>∃ v',e= .returned (.tuple #[v',.bool (bL lens).2.1,.int .i64 (bL lens).2.2])∧
   St w0 w' (own 9 1 v' (bL lens).1.length ((bL lens).1.map aD)*F):=by
 obtain⟨av,cv,rfl⟩:=(hv w h).sub;have H:=ac h;clear h;have HV:=ac hv;clear hv;go_enter Tryz.func148,Tryz.ntmps148;go_wp2_with (at_make;apply ag);refine on (iF mF rfl _ _ rfl lens.length rfl rfl rfl rfl H.out (by unfold maxLen;omega) (by omega) ?_);intro v3 w3 h3;obtain⟨a3,c3,rfl⟩:=h3.reads.sub;have h3':St w0 w3 (own 9 1 (.slice a3 lens.length c3) lens.length ((List.replicate lens.length []).map aD)*F):=by
  have e:(madeCells (Value.string ⟨#[]⟩).cells (lens.length*1)).toList=(List.replicate lens.length []).map aD:=by
   rw[gW];simp [Value.cells,toList_madeCells_one,aD,tx]
  rw[← e];exact h3
 have H3:=ac h3';clear h3 h3' H;go_wp2_with fail
 go_loopw [6] (fun i wr=>∃ k:Nat,k≤lens.length∧i= .int .i64 k∧(∀ x∈lens.take k,0≤x∧x≤30)∧wr=w3) (fun i _=>lens.length-(intOf i).toNat)
 case atStart=>exact⟨0,by omega,rfl,by simp,rfl⟩
 case round=>
  obtain⟨k,hk,rfl,hall,rfl⟩:=hrel
  by_cases hkn:k<lens.length
  ·obtain⟨g,off,rfl,hc⟩:=(HV.out _ H3.out.right).at_ hkn;have hx:=ai hkn;have HTK:=ac (show lens.take (k+1)=lens.take k++[lens[k]] from List.take_succ_eq_append_getElem hkn);have hmem:lens[k]∈lens:=bo hkn;generalize lens[k]=x at*
   have hc':(lens.map iv)[k]? =some (.int .i64 x):=by simp [hx,iv]
   rw[hc'] at hc;clear hc' hx;have hk1:(k:Int)<lens.length:=by omega
   have HALL:=ac hall;clear hall
   by_cases hbad:x<0∨30<x
   ·have HR:=ac (show bL lens=([],false,1) by rw[bL,if_pos ⟨x,hmem,hbad⟩])
    rcases hbad with hb | hb
    ·go_wp2_with fail
     go_ret3
     refine⟨.slice none 0 0,by rw[HR.out];rfl,?_⟩;rw[HR.out];exact St.own_nil _ _ H3.out.right
    ·have hb0:¬ x<0:=by omega
     go_wp2_with fail
     go_ret3
     refine⟨.slice none 0 0,by rw[HR.out];rfl,?_⟩;rw[HR.out];exact St.own_nil _ _ H3.out.right
   have hi0:¬ x<0:=by omega
   have hi1:¬ 30<x:=by omega
   have HAL2:=ac (show ∀ x∈lens.take (k+1),0≤x∧x≤30 by
    intro y hy;rw[HTK.out,cA,List.mem_singleton] at hy
    rcases hy with hy | rfl
    ·exact HALL.out y hy
    ·omega)
   go_wp2_with fail;exact⟨⟨k+1,by omega,by go_num,HAL2.out,trivial⟩,by simp [intOf];omega⟩
  ·obtain rfl:k=lens.length:=by omega
   rw[cI] at hall;have HALL:=ac hall;clear hall;have hlN:(cW lens).length=lens.length:=by simp [cW]
   generalize hl0:cW lens=l at*
   have HL0:=ac hl0;clear hl0;have h4:=H3.out;rw[← hlN,← Dh,hlN] at h4;have H4:=ac h4;clear h4 H3;have hget:∀ k,k<lens.length→∃ c:Nat,lens[k]? =some (c:Int)∧l[k]? =some c∧l.getD k 0=c∧c≤30:=by
    intro k hk;have hx:=ai hk;have hxb:=HALL.out _ (bo hk);refine⟨lens[k].toNat,by rw[hx];congr 1;omega,?_,?_,by omega⟩
    ·rw[← HL0.out,cW,au,hx];rfl
    ·rw[← HL0.out,List.getD_eq_getElem?_getD,cW,au,hx];rfl
   have HGET:=ac hget;clear hget;go_wp2_with fail
   go_loopw [10,7,8,9] (fun vn vw vo vf wx=>∃ (n:Nat) (was:List Nat) (first ok:Bool),1≤n∧n≤31∧vn= .int .i64 n∧vw= .string ⟨(tx was).toArray⟩∧vo= .bool ok∧vf= .bool first∧StandC l n 0 was first∧was.length≤30∧(∀ m,m<n→aU l m+ck l m≤2^m)∧
    St w0 wx (own 9 1 (.slice a3 lens.length c3) lens.length ((eo l n 0).map aD)*F)) (fun vn _ _ _ _=>31-(intOf vn).toNat)
   case atStart=>exact⟨1,[],true,true,by omega,by omega,rfl,rfl,rfl,rfl,.inl ⟨rfl,rfl,by simp [aU,ck]⟩,by simp,by
    intro m hm;obtain rfl:m=0:=by omega
    simp [aU,ck],H4.out⟩
   case round=>
    obtain⟨n,was,first,ok,hn1,hn2,rfl,rfl,rfl,rfl,hstand,hwas,hok,hst⟩:=hrel
    by_cases hn:n≤30
    ·have hni:(n:Int)≤30:=by omega
     have HOK:=ac hok;clear hok;go_wp2_with fail
     go_loopw [11,7,8,9] (fun vi vw vo vf wx=>∃ (i:Nat) (was:List Nat) (first ok:Bool),i≤lens.length∧vi= .int .i64 i∧vw= .string ⟨(tx was).toArray⟩∧vo= .bool ok∧vf= .bool first∧StandC l n ((l.take i).count n) was first∧was.length≤30∧
      St w0 wx (own 9 1 (.slice a3 lens.length c3) lens.length ((eo l n i).map aD)*F)) (fun vi _ _ _ _=>lens.length-(intOf vi).toNat)
     case atStart=>exact⟨0,was,first,ok,by omega,rfl,rfl,rfl,rfl,hstand,hwas,hst⟩
     case round=>
      clear hstand hwas hst;obtain⟨i,was,first,ok,hi,rfl,rfl,rfl,rfl,hstand,hwas,hst⟩:=hrel
      by_cases hin:i<lens.length
      ·obtain⟨g,off,rfl,hc⟩:=(HV.out wr hst.right).at_ hin;obtain⟨c,hx,hli,hgd,hc30⟩:=HGET.out i hin;have hc':(lens.map iv)[i]? =some (.int .i64 (c:Int)):=by simp [hx,iv]
       rw[hc'] at hc;clear hc' hx;have hi1:(i:Int)<lens.length:=by omega
       by_cases hcn:n=c
       ·subst hcn;cases first
        ·have hbw:Bit was∧was.length≤30:=by
          refine⟨?_,hwas⟩
          rcases hstand with ⟨e,_⟩ | ⟨_,e,_⟩
          ·cases e
          ·exact e
         rcases u7 hbw.1 with ⟨p,k,hbp,rfl⟩ | ⟨k,rfl⟩
         ·have hpk:p.length+k+1≤n:=by
           rcases hstand with ⟨e,_⟩ | ⟨_,_,e,_⟩
           ·cases e
           ·rw[ae,aK,dK] at e;omega
          go_wp2_with fail;refine(u4q p k hbp (by omega) rfl).mono ?_;rintro e w5 ⟨rfl,rfl⟩;go_wp2_with fail;obtain⟨BB,hBB⟩:∃ BB:List Nat,BB=p++1::List.replicate k 0:=⟨_,rfl⟩;have hst1:BB++List.replicate (n-(p.length+k+1)) 0=ap (aU l n+(l.take i).count n) n∧StandC l n ((l.take i).count n+1) (BB++List.replicate (n-(p.length+k+1)) 0) false:=by
           rw[hBB];exact hstand.more
          have HBL:=ac (show BB.length=p.length+k+1 by rw[hBB];simp;try omega);have HBB:=ac hBB;clear hBB;have HSS:=ac hst1;clear hst1;have HST:=ac hst;clear hst
          go_loopg [12] (n-(p.length+k+1)) (fun g v wx=>∃ q:Nat,q+g=n-(p.length+k+1)∧v= .string ⟨(tx (BB++List.replicate q 0)).toArray⟩∧wx=wr)
          case atStart=>exact⟨0,by omega,by rw[nC,bE,HBB.out];try rfl,rfl⟩
          case round=>
           obtain⟨q,hq,rfl,rfl⟩:=hrel;have hlq:(BB++List.replicate q 0).length=p.length+k+1+q:=by rw[ae,HBL.out,dK]
           have HAP:=ac (show tx (BB++List.replicate (q+1) 0)=tx (BB++List.replicate q 0)++tx [0] by rw[← cZ,List.append_assoc,← ft])
           by_cases hg:gk=0
           ·have hqe:q=n-(p.length+k+1):=by omega
            have hss:=HSS.out;rw[← hqe] at hss;have hle:(BB++List.replicate q 0).length=n:=by rw[hlq];omega
            clear hlq HAP;have hwl:(eo l n i).length=lens.length:=by rw[u9,hlN]
            obtain⟨gg,rfl⟩:=bR HST.out (by omega);have fz:=HST.out.own_free i;obtain⟨y0,hy0⟩:∃ y,(eo l n i)[i]? =some y:=⟨_,ai (by omega)⟩;have cz:=HST.out.own_cell (i:=i) (u:=aD y0) (by rw[au,hy0];rfl);have hs1:=HST.out.own_set i (aD (eM l i));rw[← ez,vg l n i (by omega) hgd,vv hgd,← hss.1] at hs1;have hs2:=hss.2;have hcs:=oH hli n;rw[if_pos rfl] at hcs;rw[← hcs] at hs2;have HS1:=ac hs1;clear hs1;have HS2:=ac hs2;clear hs2 hcs hss hqe;simp only[aD] at cz HS1;generalize BB++List.replicate q 0=WW at*
            have hlw:(tx WW).length=n:=by rw[iY,hle]
            have HLE:=ac hle;clear hle;go_wp2_with fail
            go_roundw
            case rel=>exact⟨i+1,WW,false,_,by omega,by go_num,rfl,rfl,rfl,HS2.out,by rw[HLE.out];omega,HS1.out⟩
            case measure=>simp [intOf];omega
           ·have hlt:p.length+k+1+q<n:=by omega
            have hltt:(tx (BB++List.replicate q 0)).length=p.length+k+1+q:=by rw[iY,hlq]
            clear hlq;have hi9:(((p.length+k+1+q:Nat)):Int)<n:=by omega
            generalize tx (BB++List.replicate q 0)=tt at*
            go_wp2_with fail
            go_roundg (gk-1)
            case measure=>omega
            case rel=>exact⟨q+1,by omega,by rw[HAP.out,← ByteArray.mk_append_mk];rfl,rfl⟩
         ·have hk30:k≤30:=by have:=hbw.2;simpa using this
          have hnone:=hstand.none;have hcnt:(l.take i).count n+1≤ck l n:=by
           have h1:=oH hli n;rw[if_pos rfl] at h1;have h2:=(List.take_sublist (i+1) l).count_le n;rw[ck,if_neg (by omega)];omega
          have HR:=ac (show bL lens=([],false,3) by
           rw[bL,if_neg (by rintro⟨x,hx,h⟩;have:=HALL.out x hx;omega),HL0.out,if_neg (fun ok=>by have:=ok n hn;omega)])
          have HS:=ac hst;clear hst hstand hnone hcnt;go_wp2_with fail;refine(ro k hk30 rfl).mono ?_;rintro e w5 ⟨rfl,rfl⟩;go_wp2_with fail
          go_ret3
          refine⟨.slice none 0 0,by rw[HR.out];rfl,?_⟩;rw[HR.out];exact St.own_nil _ _ HS.out.right
        ·go_wp2_with fail;obtain⟨BB,hBB⟩:∃ BB:List Nat,BB=([]:List Nat):=⟨_,rfl⟩;have hst1:BB++List.replicate (n-(0)) 0=ap (aU l n+(l.take i).count n) n∧StandC l n ((l.take i).count n+1) (BB++List.replicate (n-(0)) 0) false:=by
          rw[hBB];simpa using hstand.one
         have HBL:=ac (show BB.length=0 by rw[hBB];simp;try omega);have HBB:=ac hBB;clear hBB;have HSS:=ac hst1;clear hst1;have HST:=ac hst;clear hst
         go_loopg [12] (n-(0)) (fun g v wx=>∃ q:Nat,q+g=n-(0)∧v= .string ⟨(tx (BB++List.replicate q 0)).toArray⟩∧wx=wr)
         case atStart=>exact⟨0,by omega,by rw[nC,bE,HBB.out];try rfl,rfl⟩
         case round=>
          obtain⟨q,hq,rfl,rfl⟩:=hrel;have hlq:(BB++List.replicate q 0).length=0+q:=by rw[ae,HBL.out,dK]
          have HAP:=ac (show tx (BB++List.replicate (q+1) 0)=tx (BB++List.replicate q 0)++tx [0] by rw[← cZ,List.append_assoc,← ft])
          by_cases hg:gk=0
          ·have hqe:q=n-(0):=by omega
           have hss:=HSS.out;rw[← hqe] at hss;have hle:(BB++List.replicate q 0).length=n:=by rw[hlq];omega
           clear hlq HAP;have hwl:(eo l n i).length=lens.length:=by rw[u9,hlN]
           obtain⟨gg,rfl⟩:=bR HST.out (by omega);have fz:=HST.out.own_free i;obtain⟨y0,hy0⟩:∃ y,(eo l n i)[i]? =some y:=⟨_,ai (by omega)⟩;have cz:=HST.out.own_cell (i:=i) (u:=aD y0) (by rw[au,hy0];rfl);have hs1:=HST.out.own_set i (aD (eM l i));rw[← ez,vg l n i (by omega) hgd,vv hgd,← hss.1] at hs1;have hs2:=hss.2;have hcs:=oH hli n;rw[if_pos rfl] at hcs;rw[← hcs] at hs2;have HS1:=ac hs1;clear hs1;have HS2:=ac hs2;clear hs2 hcs hss hqe;simp only[aD] at cz HS1;generalize BB++List.replicate q 0=WW at*
           have hlw:(tx WW).length=n:=by rw[iY,hle]
           have HLE:=ac hle;clear hle;go_wp2_with fail
           go_roundw
           case rel=>exact⟨i+1,WW,false,_,by omega,by go_num,rfl,rfl,rfl,HS2.out,by rw[HLE.out];omega,HS1.out⟩
           case measure=>simp [intOf];omega
          ·have hlt:0+q<n:=by omega
           have hltt:(tx (BB++List.replicate q 0)).length=0+q:=by rw[iY,hlq]
           clear hlq;have hi9:(((0+q:Nat)):Int)<n:=by omega
           generalize tx (BB++List.replicate q 0)=tt at*
           go_wp2_with fail
           go_roundg (gk-1)
           case measure=>omega
           case rel=>exact⟨q+1,by omega,by rw[HAP.out,← ByteArray.mk_append_mk];rfl,rfl⟩
       ·have hcn':¬ c=n:=fun e=>hcn e.symm
        have hcn1:¬ (c:Int)=n:=by omega
        have hsk:=Dg l n i (by rw[hgd];exact hcn');have hcs:=oH hli n;simp only[if_neg hcn',fL] at hcs;rw[← hsk] at hst;rw[← hcs] at hstand;have HS:=ac hst;clear hst;have HSD:=ac hstand;clear hstand hcs hsk;go_wp2_with fail
        go_roundw
        case rel=>exact⟨i+1,was,first,ok,by omega,by go_num,rfl,rfl,rfl,HSD.out,hwas,HS.out⟩
        case measure=>simp [intOf];omega
      ·obtain rfl:i=lens.length:=by omega
       have hcnt:(l.take lens.length).count n=ck l n:=by
        rw[bU (by omega),ck,if_neg (by omega)]
       rw[hcnt] at hstand;have hle:=hstand.le;have hup:=hstand.up;rw[← hlN,Df] at hst;rw[hlN] at hst;have HS:=ac hst;clear hst;have HUP:=ac hup;clear hup hstand;have HLE:=ac hle;clear hle;clear hcnt;go_wp2_with fail
       go_roundw
       case rel=>exact⟨n+1,was,first,ok,by omega,by omega,by go_num,rfl,rfl,rfl,HUP.out,hwas,by
        intro m hm
        by_cases e:m<n
        ·exact HOK.out m e
        ·have:m=n:=by omega
         rw[this];exact HLE.out,HS.out⟩
       case measure=>simp [intOf];omega
    ·obtain rfl:n=31:=by omega
     have hce:eo l 31 0=aB l:=Di l (fun j=>by
      by_cases hj:j<lens.length
      ·obtain⟨c,_,_,e,h30⟩:=HGET.out j hj;rw[e];exact h30
      ·rw[List.getD_eq_getElem?_getD,bg (by omega)];simp)
     rw[hce] at hst;have hwl:(aB l).length=lens.length:=by rw[aB,bI,jQ,hlN]
     have HR:=ac (show bL lens=(aB l,fullC l,0) by
      rw[bL,if_neg (by rintro⟨x,hx,h⟩;have:=HALL.out x hx;omega),HL0.out,if_pos (show OkC l from fun m hm=>hok m (by omega))])
     have HWL:=ac hwl;clear hwl;have HS:=ac hst;clear hst hok hce;cases first
     ·have hbw:Bit was:=by
       rcases hstand with ⟨e,_⟩ | ⟨_,e,_⟩
       ·cases e
       ·exact e
      rcases u7 hbw with ⟨p,k,hbp,rfl⟩ | ⟨k,rfl⟩
      ·have hnf:=hstand.not_full;have HFU:=ac (show fullC l=false by
        rw[fullC,beq_eq_false_iff_ne];omega)
       have hpk:p.length+k+1≤30:=by simp at hwas;omega
       clear hstand hnf;go_wp2_with fail;refine(u4q p k hbp hpk rfl).mono ?_;rintro e w5 ⟨rfl,rfl⟩;go_wp2_with fail
       go_ret3
       refine⟨.slice a3 lens.length c3,by rw[HR.out];simp only[];rw[HFU.out];rfl,?_⟩;rw[HR.out,HWL.out];exact HS.out
      ·have hnf:=hstand.none;have HFU:=ac (show fullC l=true by
        rw[fullC,beq_iff_eq];omega)
       have hk30:k≤30:=by simpa using hwas
       clear hstand hnf;go_wp2_with fail;refine(ro k hk30 rfl).mono ?_;rintro e w5 ⟨rfl,rfl⟩;go_wp2_with fail
       go_ret3
       refine⟨.slice a3 lens.length c3,by rw[HR.out];simp only[];rw[HFU.out];rfl,?_⟩;rw[HR.out,HWL.out];exact HS.out
     ·rcases hstand with ⟨_,e,h0⟩ | ⟨e,_⟩
      ·subst e;have HFU:=ac (show fullC l=false by
        rw[fullC,beq_eq_false_iff_ne];omega)
       clear h0;go_wp2_with fail;refine(ro 0 (by omega) rfl).mono ?_;rintro e w5 ⟨rfl,rfl⟩;go_wp2_with fail
       go_ret3
       refine⟨.slice a3 lens.length c3,by rw[HR.out];simp only[];rw[HFU.out];rfl,?_⟩;rw[HR.out,HWL.out];exact HS.out
      ·cases e
end Go.Proofs.YtboflbdniogcdaaGreatDoor
