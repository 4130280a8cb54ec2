/-
  Parts of a proof.
-/
import Derived.Test.YtboflbdniogcdaaGreatDoorK00
import Derived.Test.YtboflbdniogcdaaGreatDoorK27
import Derived.Test.YtboflbdniogcdaaGreatDoorK15
import Derived.Deep.Cut
import Derived.Deep.CutRange
import Derived.Test.YtboflbdniogcdaaGreatDoorK22
import Derived.BigQuiet
import Derived.BigRegion
import Derived.Deep.Fields
import Derived.Deep.LoopGhost
import Derived.Deep.QuietTactic
import Derived.Deep.RegionHeld
import Derived.Deep.RegionHeld3
import Derived.Deep.RegionLaw
import Derived.Deep.Slices
import Derived.DeepKeys
import Derived.Lib.Hide
import Derived.Lib.Strings
import Derived.OrdersHeld
import Derived.ProofKit
import Derived.RegionTactic
import Derived.Test.YtboflbdniogcdaaGreatDoorChecked
import Derived.WalkKit
import Derived.WalkLawsBesides
import Derived.WalkSpells
import Derived.Test.YtboflbdniogcdaaGreatDoorK16
set_option linter.unusedVariables false
set_option linter.unusedSimpArgs false
set_option maxRecDepth 100000
set_option maxHeartbeats 100000000
namespace Go.Proofs.YtboflbdniogcdaaGreatDoor
open Go.RowKit Go.Mz
def dJ (l:List Int):List Nat:=l.map Int.toNat
def du (l:List Int):List (List Nat) × Bool × Nat:=
 if ∃ x∈l,x<0∨30<x then([],false,1) else if OkC (dJ l) then(aF (dJ l),fullC (dJ l),0) else([],false,3)
def gQ (l:List Nat):List Nat:=(List.range 31).map (dj l)
def dZ (l:List Nat) (n:Nat) (r:List Nat):List Nat:=(List.range 32).map fun m=>if 0<m∧m<n then bC l m+r.count m else 0
def ff (b:Nat) (e:TypeId) (L:List Nat):SProp:=blk b (.cells (L.map nv).toArray e (0,0))
theorem mu {w0 w:World} {b:Nat} {e:TypeId} {L:List Nat} {F:SProp} (h:St w0 w (ff b e L*F)) {j x:Nat} (hj:L[j]? =some x):w.cell? ⟨b,j,none⟩=some (.int .i64 (x:Int)):=by
 refine h.cell j ?_;simp [hj,nv]
theorem tg {w0 w:World} {b:Nat} {e:TypeId} {L:List Nat} {F:SProp} (h:St w0 w (ff b e L*F)) (j:Nat):w.frozen? ⟨b,j,none⟩=false:=St.free h j
theorem th {w0 w:World} {b:Nat} {e:TypeId} {L:List Nat} {F:SProp} (h:St w0 w (ff b e L*F)) (j x:Nat):St w0 (w.setCell ⟨b,j,none⟩ (.int .i64 (x:Int))) (ff b e (L.set j x)*F):=by
 have:=St.set h j (.int .i64 (x:Int));rw[iN,show(.int .i64 (x:Int):Value)=nv x from rfl,← ew] at this;exact this
theorem FC (l:List Nat) {c:Nat} (h0:0<c) (h:c≤30):(gQ l).set c (dj l c+1)=gQ (l++[c]):=by
 apply lP
 ·simp [gQ]
 ·intro i h1 h2;rw[AH];simp only[gQ,kd,oN,dj,kN,uD]
  by_cases hc:c=i
  ·subst hc;have hc0:¬ c=0:=by omega
   simp [hc0]
  ·have:(c==i)=false:=by simp [hc]
   simp [hc,this]
theorem FD (l:List Nat):gQ (l++[0])=gQ l:=by
 apply lQ;intro i _;simp only[dj,kN,uD]
 by_cases hc:i=0
 ·simp [hc]
 ·have:(0==i)=false:=by simp;omega
  simp [hc,this]
theorem ti (l:List Nat) {c:Nat} (h:c≤30):(gQ l)[c]? =some (dj l c):=by
 rw[gQ,aC,dW (by omega)];rfl
theorem x4 (l:List Nat) (c:Nat):dj l c≤l.length:=by
 unfold dj;split
 ·omega
 ·exact AI
theorem FE (l:List Nat):dZ l 1 []=List.replicate 32 0:=by
 apply lP
 ·simp [dZ]
 ·intro i h1 h2;simp only[dZ,kd,oN,List.getElem_replicate];rw[if_neg (by omega)]
theorem FG (l:List Nat) {n:Nat} (h0:0<n) (h:n≤30):(dZ l n []).set n (bC l n)=dZ l (n+1) []:=by
 apply lP
 ·simp [dZ]
 ·intro i h1 h2;rw[AH];simp only[dZ,kd,oN,List.count_nil,fQ]
  by_cases hc:n=i
  ·subst hc;simp [h0]
  ·have:(0<i∧i<n+1)↔(0<i∧i<n):=by omega
   simp [hc,this]
theorem FH (l:List Nat) (r:List Nat) {n m:Nat} (h0:0<m) (h1:m<n) (h:m≤31):(dZ l n r)[m]? =some (bC l m+r.count m):=by
 rw[dZ,aC,dW (by omega),b7,if_pos ⟨h0,h1⟩]
theorem FI (l r:List Nat) {c:Nat} (h0:0<c) (h:c≤30):(dZ l 31 r).set c (bC l c+r.count c+1)=dZ l 31 (r++[c]):=by
 apply lP
 ·simp [dZ]
 ·intro i h1 h2;rw[AH];simp only[dZ,kd,oN,kN,uD]
  by_cases hc:c=i
  ·subst hc;have:(0<c∧c<31):=by omega
   simp [this];omega
  ·have:(c==i)=false:=by simp [hc]
   simp [hc,this]
theorem FJ (l r:List Nat):dZ l 31 (r++[0])=dZ l 31 r:=by
 apply lQ;intro i _;simp only[kN,uD]
 by_cases hc:0<i∧i<31
 ·have:(0==i)=false:=by simp;omega
  simp [this]
 ·rw[if_neg hc,if_neg hc]
theorem x5 {w0 w:World} {F:SProp} (h:St w0 w F) (lens:List Int) {v:Value} (hv:Stb w0 F (fun w=>Reads w 1 v lens.length (lens.map iv))) (hl:lens.length≤100000):
  Calls Tryz.prog 208 #[v] w fun e w'=>∃ v',e= .returned (.tuple #[v',.bool (du lens).2.1,.int .i64 (du lens).2.2])∧
   St w0 w' (own 9 1 v' (du lens).1.length ((du lens).1.map cA)*F):=by
 obtain⟨av,cv,rfl⟩:=(hv w h).sub;have H:=ac h;clear h;have HV:=ac hv;clear hv;go_enter Tryz.func208,Tryz.ntmps208;go_wp2_with fail;have h1:St w0 (w.alloc (.cells ((List.replicate 31 0).map nv).toArray 307 (0,0))) (ff w.heap.size 307 (List.replicate 31 0)*F):=H.out.alloc _;have H1:=ac h1;clear h1
 go_loopw [16] (fun i wr=>∃ k:Nat,k≤lens.length∧i= .int .i64 k∧(∀ x∈lens.take k,0≤x∧x≤30)∧St w0 wr (ff w.heap.size 307 (gQ (dJ (lens.take k)))*F)) (fun i _=>lens.length-(intOf i).toNat)
 case atStart=>exact⟨0,by omega,rfl,by simp,H1.out⟩
 case round=>
  obtain⟨k,hk,rfl,hall,hst⟩:=hrel;generalize w.heap.size=b1 at*
  by_cases hkn:k<lens.length
  ·obtain⟨g,off,rfl,hc⟩:=(HV.out wr hst.right).at_ hkn;have hx:=au hkn;have HTK:=ac (show lens.take (k+1)=lens.take k++[lens[k]] from List.take_succ_eq_append_getElem hkn);have hmem:lens[k]∈lens:=cT hkn;generalize lens[k]=x at*
   have hc':(lens.map iv)[k]? =some (.int .i64 x):=by simp [hx,iv]
   rw[hc'] at hc;clear hc' hx;have hk1:(k:Int)<lens.length:=by omega
   have HALL:=ac hall;clear hall
   by_cases hbad:x<0∨30<x
   ·have HR:=ac (show du lens=([],false,1) by rw[du,if_pos ⟨x,hmem,hbad⟩]);have HS:=ac hst;clear hst
    rcases hbad with hb | hb
    ·go_wp2_with fail
     go_ret3
     refine⟨.slice none 0 0,by rw[HR.out];rfl,?_⟩;rw[HR.out];exact St.own_nil _ _ HS.out.right
    ·have hb0:¬ x<0:=by omega
     go_wp2_with fail
     go_ret3
     refine⟨.slice none 0 0,by rw[HR.out];rfl,?_⟩;rw[HR.out];exact St.own_nil _ _ HS.out.right
   obtain⟨c,rfl⟩:∃ c:Nat,x=c:=⟨x.toNat,by omega⟩;have hc30:c≤30:=by omega
   have HNT:=ac (show dJ (lens.take (k+1))=dJ (lens.take k)++[c] by rw[HTK.out];simp [dJ]);have HAL2:=ac (show ∀ x∈lens.take (k+1),0≤x∧x≤30 by
    intro y hy;rw[HTK.out,cD,List.mem_singleton] at hy
    rcases hy with hy | rfl
    ·exact HALL.out y hy
    ·omega)
   have hcl:=x4 (dJ (lens.take k)) c;have hcl2:(dJ (lens.take k)).length≤100000:=by simp [dJ];omega
   have hi0:¬ (c:Int)<0:=by omega
   have hi1:¬ (30:Int)<c:=by omega
   by_cases hz:c=0
   ·subst hz;have HS:=ac hst;clear hst;go_wp2_with fail;refine⟨⟨k+1,by omega,by go_num,HAL2.out,?_⟩,by simp [intOf];omega⟩;rw[HNT.out,FD];exact HS.out
   ·have e0:=mu hst (ti (dJ (lens.take k)) hc30);have f0:=tg hst c;have hset:=th hst c (dj (dJ (lens.take k)) c+1);rw[FC _ (by omega) hc30,← HNT.out] at hset;have HSET:=ac hset;clear hset hst;generalize dj (dJ (lens.take k)) c=y at*
    have hi2:(0:Int)<c:=by omega
    have hi3:(c:Int)<31:=by omega
    have hsy:IntKind.i64.wrap ((y:Int)+1)=((y+1:Nat):Int):=by rw[IntWalk.i64_in _ (by omega)];rfl
    go_wp2_with fail;refine⟨⟨k+1,by omega,by go_num,HAL2.out,?_⟩,by simp [intOf];omega⟩;have:=HSET.out;simpa using this
  ·obtain rfl:k=lens.length:=by omega
   rw[cS] at hall hst;have HS:=ac hst;clear hst;have HALL:=ac hall;clear hall;go_wp2_with fail;have hlN:(dJ lens).length=lens.length:=by simp [dJ]
   generalize hl0:dJ lens=l at*
   have HL0:=ac hl0;clear hl0;have h2:St w0 (wr.alloc (.cells ((List.replicate 32 0).map nv).toArray 308 (0,0))) (ff wr.heap.size 308 (List.replicate 32 0)*(ff b1 307 (gQ l)*F)):=HS.out.alloc _;rw[← FE l] at h2;have H2:=ac h2;clear h2;generalize wr.heap.size=b2 at*
   go_loopw [10,9] (fun vn vc wx=>∃ n:Nat,1≤n∧n≤31∧vn= .int .i64 n∧vc= .int .i64 (bC l n)∧(∀ m,m<n→bC l m+dj l m≤2^m)∧St w0 wx (ff b2 308 (dZ l n [])*(ff b1 307 (gQ l)*F))) (fun vn _ _=>31-(intOf vn).toNat)
   case atStart=>exact⟨1,by omega,by omega,rfl,rfl,by
    intro m hm;obtain rfl:m=0:=by omega
    simp [bC,dj],H2.out⟩
   case round=>
    obtain⟨n,hn1,hn2,rfl,rfl,hok,hst⟩:=hrel;have hcb:bC l n≤2^n:=by
     obtain⟨m,rfl⟩:∃ m,n=m+1:=⟨n-1,by omega⟩;have:=hok m (by omega);rw[bC,dM];omega
    have hp31:2^n≤2^31:=gj (by decide) hn2
    by_cases hn:n≤30
    ·have hcl:=x4 l n;have e0:=mu (hst.perm (ak _ _ _)) (ti l hn);have hset:=th hst n (bC l n);rw[FG l (by omega) hn] at hset;have f0:=tg hst n;have c0:∃ y:Nat,wr.cell? ⟨b2,n,none⟩=some (.int .i64 (y:Int)):=by
      refine⟨(dZ l n []).getD n 0,mu hst ?_⟩;rw[List.getD_eq_getElem?_getD];have:n<(dZ l n []).length:=by simp [dZ];omega
      rw[au this];rfl
     obtain⟨y0,c0⟩:=c0;have e1:=mu (hset.perm (ak _ _ _)) (ti l hn);have HSET:=ac hset;clear hset hst;have HOK:=ac hok;clear hok;have HCC:=ac (show bC l (n+1)=(bC l n+dj l n)*2 from rfl);have hi1:(n:Int)≤30:=by omega
     have hi2:(n:Int)<31:=by omega
     have hi3:(n:Int)<32:=by omega
     have hi4:(0:Int)≤n:=by omega
     generalize hcd:bC l n=cd at*
     generalize hct:dj l n=ct at*
     have HCD:=ac hcd;clear hcd;have HCT:=ac hct;clear hct;have hs1:IntKind.i64.wrap ((cd:Int)+ct)=(cd:Int)+ct:=IntWalk.i64_in _ (by omega);have hwr:wrap64 ((2:Int)^n)=((2^n:Nat):Int):=by
      have e:((2:Int)^n)=((2^n:Nat):Int):=by simp
      rw[e,wrap64];have:(2:Nat)^31=2147483648:=by decide
      generalize (2:Nat)^n=z at*
      omega
     by_cases hq:cd+ct≤2^n
     ·have hle:(cd:Int)+ct≤wrap64 ((2:Int)^n):=by rw[hwr];omega
      have HWR:=ac hwr;clear hwr;go_wp2_with fail;refine⟨⟨n+1,by omega,by omega,by go_num,by rw[HCC.out];simp,?_,HSET.out⟩,by simp [intOf];omega⟩;intro m hm
      by_cases hmn:m<n
      ·exact HOK.out m hmn
      ·have hmn2:m=n:=by omega
       rw[hmn2,HCD.out,HCT.out];exact hq
     ·have hle:¬ (cd:Int)+ct≤wrap64 ((2:Int)^n):=by rw[hwr];omega
      have HWR:=ac hwr;clear hwr;have HR:=ac (show du lens=([],false,3) by
       rw[du,if_neg (by rintro⟨x,hx,h⟩;have:=HALL.out x hx;omega),HL0.out,if_neg (fun ok=>hq (by have:=ok n hn;rwa [HCD.out,HCT.out] at this))])
      go_wp2_with fail
      go_ret3
      refine⟨.slice none 0 0,by rw[HR.out];rfl,?_⟩;rw[HR.out];exact St.own_nil _ _ HSET.out.right.right
    ·obtain rfl:n=31:=by omega
     have HS2:=ac hst;clear hst;have HOK:=ac hok;clear hok;have HCB:=ac hcb;clear hcb;go_wp2_with (at_make;apply ap);have HR:=ac (show du lens=(aF l,fullC l,0) by
      rw[du,if_neg (by rintro⟨x,hx,h⟩;have:=HALL.out x hx;omega),HL0.out,if_pos (show OkC l from fun m hm=>HOK.out m (by omega))])
     refine on (gV wo rfl _ _ rfl lens.length rfl rfl rfl rfl HS2.out (by unfold maxLen;omega) (by omega) ?_);intro v3 w3 h3;obtain⟨a3,c3,rfl⟩:=h3.reads.sub;have h3':St w0 w3 (own 9 1 (.slice a3 lens.length c3) lens.length (((aF l).take 0++List.replicate (lens.length-0) []).map cA)*(ff b2 308 (dZ l 31 (l.take 0))*(ff b1 307 (gQ l)*F))):=by
      have e:(madeCells (Value.string ⟨#[]⟩).cells (lens.length*1)).toList=((aF l).take 0++List.replicate (lens.length-0) []).map cA:=by
       rw[gz];simp [Value.cells,toList_madeCells_one,cA,tx]
      rw[← e];exact h3
     have H3:=ac h3';clear h3 h3' HS2;have HFU:=ac (show Value.bool ((bC l 31:Int)==2147483648)=Value.bool (fullC l) by
      congr 1
      rw[fullC,Bool.eq_iff_iff];simp;omega)
     have hcl31:bC l 31≤2147483648:=HCB.out;generalize hcd:bC l 31=cd at*
     have HCD:=ac hcd;clear hcd;go_wp2_with fail
     go_loopw [57] (fun i wx=>∃ k:Nat,k≤lens.length∧i= .int .i64 k∧St w0 wx (own 9 1 (.slice a3 lens.length c3) lens.length (((aF l).take k++List.replicate (lens.length-k) []).map cA)*(ff b2 308 (dZ l 31 (l.take k))*(ff b1 307 (gQ l)*F)))) (fun i _=>lens.length-(intOf i).toNat)
     case atStart=>exact⟨0,by omega,rfl,H3.out⟩
     case round=>
      obtain⟨k,hk,rfl,hst⟩:=hrel
      by_cases hkn:k<lens.length
      ·obtain⟨g,off,rfl,hc⟩:=(HV.out wr hst.right.right.right).at_ hkn;have hmem:lens[k]∈lens:=cT hkn;have hx:=au hkn;have hxb:=HALL.out _ hmem;generalize lens[k]=x at*
       clear hmem;obtain⟨c,rfl⟩:∃ c:Nat,x=c:=⟨x.toNat,by omega⟩;have hc':(lens.map iv)[k]? =some (.int .i64 (c:Int)):=by simp [hx,iv]
       rw[hc'] at hc;have hlk:l[k]? =some c:=by rw[← HL0.out,dJ,aC,hx];rfl
       clear hc' hx;have hgd:l.getD k 0=c:=by rw[List.getD_eq_getElem?_getD,hlk];rfl
       have HTK:=ac (show l.take (k+1)=l.take k++[c] by rw[jJ,hlk];rfl);have hwk:(aF l)[k]? =some (aE (bC l c+(l.take k).count c) c):=by
        rw[aF,aC,dW (by omega),b7,gW,hgd]
       have hwl:(aF l).length=lens.length:=by rw[aF,bS,kK,hlN]
       have HCON:=ac (show(((aF l).take k++List.replicate (lens.length-k) []).map cA).set k (cA (aE (bC l c+(l.take k).count c) c))=((aF l).take (k+1)++List.replicate (lens.length-(k+1)) []).map cA by
        rw[← ew]
        congr 1
        rw[jJ,hwk,kJ _ _ (by rw[aL,hwl];omega),aL,hwl];have e2:List.replicate (lens.length-k) ([]:List Nat)=[]::List.replicate (lens.length-(k+1)) []:=by rw[← gU];congr 1;omega
        have e3:k-min k lens.length=0:=by omega
        rw[e2,e3];simp)
       have hk1:(k:Int)<lens.length:=by omega
       have heq0:c=0→(aF l).take (k+1)++List.replicate (lens.length-(k+1)) []=(aF l).take k++List.replicate (lens.length-k) []:=by
        intro h0;rw[jJ,hwk,h0];have e2:List.replicate (lens.length-k) ([]:List Nat)=[]::List.replicate (lens.length-(k+1)) []:=by rw[← gU];congr 1;omega
        rw[e2];simp [aE]
       by_cases hz:c=0
       ·have hsame:St w0 wr (own 9 1 (.slice a3 lens.length c3) lens.length (((aF l).take (k+1)++List.replicate (lens.length-(k+1)) []).map cA)*(ff b2 308 (dZ l 31 (l.take (k+1)))*(ff b1 307 (gQ l)*F))):=by
         rw[HTK.out,heq0 hz,hz,FJ];exact hst
        clear hwk hwl hgd hlk heq0;subst hz;have HS:=ac hsame;clear hsame hst;go_wp2_with fail;exact⟨⟨k+1,by omega,by go_num,HS.out⟩,by simp [intOf];omega⟩
       ·clear heq0;obtain⟨g3,rfl⟩:=ce hst (by omega);have hcellk:((((aF l).take k++List.replicate (lens.length-k) []).map cA))[k]? =some (cA []):=by
         rw[aC,ck (by rw[aL,hwl];omega),aL,hwl,dx,if_pos (by omega)];rfl
        clear hwk hwl hgd hlk;have hnx:=FH l (l.take k) (n:=31) (show 0<c by omega) (by omega) (by omega);have hcb:bC l c≤2^30:=by
         have h1:=HOK.out c (by omega);have h2:2^c≤2^30:=gj (by decide) (by omega);omega
        have hcnt:(l.take k).count c≤100000:=dL AI (by rw[aL];omega);have n0:=mu (hst.perm (ak _ _ _)) hnx;have HNX:=ac hnx;clear hnx;have HCK:=ac hcellk;clear hcellk;have HST:=ac hst;clear hst;have hmore:=ac (FI l (l.take k) (show 0<c by omega) (show c≤30 by omega));have hp30:(2:Nat)^30=1073741824:=by decide
        rw[hp30] at hcb;generalize hnv:bC l c+(l.take k).count c=nv0 at*
        have hnvb:nv0≤1100000000:=by omega
        clear hnv hcb hcnt hp30;have hi2:(0:Int)<c:=by omega
        have hi3:(c:Int)<32:=by omega
        have hsy:IntKind.i64.wrap ((nv0:Int)+1)=((nv0+1:Nat):Int):=by rw[IntWalk.i64_in _ (by omega)];rfl
        go_wp2_with fail;refine(Fz HST.out nv0 c (by omega) (by omega) rfl rfl).mono ?_;rintro e w5 ⟨rfl,h5⟩;have fz:=h5.own_free k;have cz:=h5.own_cell HCK.out;have h6:=h5.own_set k (cA (aE nv0 c));rw[HCON.out] at h6;have h6':=h6.perm (ak _ _ _);have n1:=mu h6' HNX.out;have f1:=tg h6' c;have h7:=th h6' c (nv0+1);rw[hmore.out,← HTK.out] at h7;have H7:=ac (h7.perm (ak _ _ _));clear h7 h6' h6 h5;simp only[cA] at n1 f1 H7;generalize (ByteArray.mk (tx (aE nv0 c)).toArray)=str at*
        go_wp2_with fail;refine⟨⟨k+1,by omega,by go_num,?_⟩,by simp [intOf];omega⟩;have:=H7.out;simpa using this
      ·obtain rfl:k=lens.length:=by omega
       have hfin:St w0 wr (own 9 1 (.slice a3 lens.length c3) lens.length ((aF l).map cA)*F):=by
        have hwl:(aF l).length=lens.length:=by rw[aF,bS,kK,hlN]
        rw[b8,oJ,cy,cW (by omega)] at hst;exact(hst.perm (show _=(ff b2 _ _*ff b1 _ _)*(own 9 1 (.slice a3 lens.length c3) lens.length ((aF l).map cA)*F) by ac_rfl)).right
       have HFN:=ac hfin;clear hfin hst;go_wp2_with fail
       go_ret3
       refine⟨.slice a3 lens.length c3,?_,?_⟩
       ·rw[HR.out];show Ending.returned (.tuple #[.slice a3 lens.length c3,Value.bool ((cd:Int)==2147483648),.int .i64 0])=_;rw[HFU.out];rfl
       ·rw[HR.out,show(aF l).length=lens.length by rw[aF,bS,kK,hlN]];exact HFN.out
def vl (t:List Nat) (p n:Nat):Nat:=bT true (fun i=>t.getD (p+i) 0) n
def fh (k:Nat):Nat:=if k<144∨280≤k then 8 else if k<256 then 9 else 7
def dR:List Nat:=(List.range 288).map fh
def d7:List Nat:=List.replicate 30 5
def fJ:Nat→Nat
 | 0=>3
 | k+1=>fJ k+2^(k/4-1)
def fK:Nat→Nat
 | 0=>1
 | k+1=>fK k+2^(k/2-1)
def bm:List (Nat × Nat):=(List.range 28).map (fun k=>(fJ k,k/4-1))++[(258,0)]
def aR:List (Nat × Nat):=(List.range 30).map fun k=>(fK k,k/2-1)
def bo:List Nat:=[16,17,18,0,8,7,9,6,10,5,11,4,12,3,13,2,14,1,15]
def usedL (l:List Nat):Nat:=(l.filter (fun n=>decide (0<n))).length
def longL (l:List Nat):Nat:=l.foldl max 0
def dd (l:List Nat) (how:Nat):Nat ⊕ List (List Nat):=
 let c:=du (l.map fun(n:Nat)=>(n:Int))
 if c.2.2≠0 then .inl c.2.2
 else if c.2.1=false∧(how=0∨how=1∧(1<usedL l∨1<longL l)) then .inl 3
 else .inr c.1
def fi (t:List Nat) (most:Nat):Nat→Nat→List UInt8→Nat ⊕ (Nat × List UInt8)
 | 0,p,out=> .inr (p,out)
 | n+1,p,out=>
  if t.length<p+8 then .inl 2 else if most≤out.length then .inl 8 else fi t most n (p+8) (out++[UInt8.ofNat (vl t p 8)])
def jC (t:List Nat) (most p:Nat) (out:List UInt8):Nat ⊕ (Nat × List UInt8):=
 let q:=(p+7)/8*8
 if t.length<q+32 then .inl 2
 else if vl t q 16+vl t (q+16) 16≠65535 then .inl 3
 else fi t most (vl t q 16) (q+32) out
def dv (t:List Nat) (W:List (List Nat)) (n:Nat):Nat→List Nat→Nat→Nat ⊕ (Nat × List Nat)
 | 0,_,_=> .inl 99
 | f+1,all,p=>
  if all.length<n then
   match aX W [] (t.drop p) with
   | (_,.inr e)=> .inl e
   | (k,.inl v)=>
    if v<16 then dv t W n f (all++[v]) (p+k)
    else if v=16∧all=[] then .inl 3
    else
     let value:=if v=16 then all.getD (all.length-1) 0 else 0
     let least:=if v=18 then 11 else 3
     let wide:=if v=16 then 2 else if v=18 then 7 else 3
     if t.length<p+k+wide then .inl 2
     else dv t W n f (all++List.replicate (least+vl t (p+k) wide) value) (p+k+wide)
  else if n<all.length then .inl 3 else .inr (p,all)
def dD (t:List Nat) (l:List (Nat × Nat)) (i p:Nat):Nat ⊕ (Nat × Nat):=
 match l[i]? with
 | none=> .inl 6
 | some b=>if t.length<p+b.2 then .inl 2 else .inr (p+b.2,b.1+vl t p b.2)
def fL (d:Nat):Nat→List UInt8→List UInt8
 | 0,out=>out
 | n+1,out=>fL d n (out++[out.getD (out.length-d) 0])
def ja (t:List Nat) (B:List (List Nat)) (most n p:Nat) (out:List UInt8):Nat ⊕ (Nat × List UInt8):=
 match aX B [] (t.drop p) with
 | (_,.inr e)=> .inl e
 | (k,.inl v)=>
  match dD t aR v (p+k) with
  | .inl e=> .inl e
  | .inr (q,d)=>if out.length<d then .inl 3 else if most<out.length+n then .inl 8 else .inr (q,fL d n out)
def gS (t:List Nat) (A B:List (List Nat)) (most p:Nat) (out:List UInt8):Nat ⊕ (Nat × List UInt8 × Bool):=
 match aX A [] (t.drop p) with
 | (_,.inr e)=> .inl e
 | (k,.inl v)=>
  if v=256 then .inr (p+k,out,true)
  else if v<256 then(if most≤out.length then .inl 8 else .inr (p+k,out++[UInt8.ofNat v],false))
  else
   match dD t bm (v-257) (p+k) with
   | .inl e=> .inl e
   | .inr (q,n)=>
    match ja t B most n q out with
    | .inl e=> .inl e
    | .inr (q',out')=> .inr (q',out',false)
def eO (t:List Nat) (A B:List (List Nat)) (most:Nat):Nat→Nat→List UInt8→Nat ⊕ (Nat × List UInt8)
 | 0,_,_=> .inl 99
 | f+1,p,out=>
  match gS t A B most p out with
  | .inl e=> .inl e
  | .inr (q,o,true)=> .inr (q,o)
  | .inr (q,o,false)=>eO t A B most f q o
def hU (t:List Nat) (la lb:List Nat) (how most p:Nat) (out:List UInt8):Nat ⊕ (Nat × List UInt8):=
 match dd la 0 with
 | .inl e=> .inl e
 | .inr A=>
  match dd lb how with
  | .inl e=> .inl e
  | .inr B=>eO t A B most (t.length+1-p) p out
def fW (t:List Nat):List Nat→Nat→List Nat→Nat ⊕ (Nat × List Nat)
 | [],p,lens=> .inr (p,lens)
 | i::r,p,lens=>if t.length<p+3 then .inl 2 else fW t r (p+3) (lens.set i (vl t p 3))
def ie (t:List Nat) (most p:Nat) (out:List UInt8):Nat ⊕ (Nat × List UInt8):=
 if t.length<p+14 then .inl 2
 else
  let lits:=vl t p 5+257
  let dists:=vl t (p+5) 5+1
  let m:=vl t (p+10) 4+4
  if 286<lits∨30<dists then .inl 3
  else
   match fW t (bo.take m) (p+14) (List.replicate 19 0) with
   | .inl e=> .inl e
   | .inr (q,lens)=>
    match dd lens 0 with
    | .inl e=> .inl e
    | .inr W=>
     match dv t W (lits+dists) (lits+dists+1) [] q with
     | .inl e=> .inl e
     | .inr (q',all)=>if all.getD 256 0=0 then .inl 3 else hU t (all.take lits) (all.drop lits) 1 most q' out
def fX (t:List Nat) (most h p:Nat) (out:List UInt8):Nat ⊕ (Nat × List UInt8):=
 if h=0 then jC t most p out else if h=1 then hU t dR d7 2 most p out else if h=2 then ie t most p out else .inl 3
def inflF (t:List Nat) (most:Nat):Nat→Nat→List UInt8→Nat ⊕ (Nat × List UInt8)
 | 0,_,_=> .inl 99
 | f+1,p,out=>
  if t.length<p+3 then .inl 2
  else
   match fX t most (vl t p 3/2) (p+3) out with
   | .inl e=> .inl e
   | .inr (q,out')=>if vl t p 3%2=1 then .inr (q,out') else inflF t most f q out'
theorem mv (bs:List UInt8) (p n:Nat):bL bs true p n=vl (ag true bs) p n:=by
 rw[bL,vl];exact jo true n fun i _=>(oV true bs (p+i)).symm
theorem jD (bs:List UInt8) (p n:Nat):vl (ag true bs) p n<2^n:=by rw[← mv];exact kQ _ _ _ _
end Go.Proofs.YtboflbdniogcdaaGreatDoor
namespace Go.Mz
abbrev aH:=Nat × List Nat
def aV:List aH→List aH
 | x::y::r=>(x.1+y.1,x.2++y.2)::aV r
 | _=>[]
def bY:List aH→List aH→List aH
 | [],b=>b
 | a,[]=>a
 | x::a,y::b=>if x.1≤y.1 then x::bY a (y::b) else y::bY (x::a) b
termination_by a b=>a.length+b.length
def lv (S:List aH):Nat→List aH
 | 0=>[]
 | k+1=>bY S (aV (lv S k))
def d8 (l:List aH):Prop:=l.Pairwise (fun x y=>x.1≤y.1)
theorem nQ (a:List aH):bY a []=a:=by cases a <;> simp [bY]
theorem nS:∀ (a b:List aH),(bY a b).length=a.length+b.length
 | [],b=>by simp [bY]
 | x::a,[]=>by simp [bY]
 | x::a,y::b=>by
  rw[bY]
  split
  ·rw[aO,nS a (y::b)];simp;omega
  ·rw[aO,nS (x::a) b];simp;omega
termination_by a b=>a.length+b.length
theorem mw:∀ (a b:List aH) (z:aH),z∈bY a b→z∈a∨z∈b
 | [],b,z,h=>by simp [bY] at h;exact .inr h
 | x::a,[],z,h=>by simp [bY] at h;exact .inl (by simpa using h)
 | x::a,y::b,z,h=>by
  rw[bY] at h
  split at h
  ·rcases List.mem_cons.1 h with rfl | h
   ·exact .inl (by simp)
   ·rcases mw a (y::b) z h with h | h
    ·exact .inl (by simp [h])
    ·exact .inr h
  ·rcases List.mem_cons.1 h with rfl | h
   ·exact .inr (by simp)
   ·rcases mw (x::a) b z h with h | h
    ·exact .inl h
    ·exact .inr (by simp [h])
termination_by a b=>a.length+b.length
theorem tj:∀ (a b:List aH),d8 a→d8 b→d8 (bY a b)
 | [],b,_,hb=>by simpa [bY] using hb
 | x::a,[],ha,_=>by rw[nQ];exact ha
 | x::a,y::b,ha,hb=>by
  have ha2:=dY.1 ha;have hb2:=dY.1 hb;rw[bY]
  split
  ·rename_i hle;refine dY.2 ⟨fun z hz=> ?_,tj a (y::b) ha2.2 hb⟩
   rcases mw _ _ _ hz with h | h
   ·exact ha2.1 z h
   ·rcases List.mem_cons.1 h with rfl | h
    ·exact hle
    ·have:=hb2.1 z h;omega
  ·rename_i hle;refine dY.2 ⟨fun z hz=> ?_,tj (x::a) b ha hb2.2⟩
   rcases mw _ _ _ hz with h | h
   ·rcases List.mem_cons.1 h with rfl | h
    ·omega
    ·have:=ha2.1 z h;omega
   ·exact hb2.1 z h
termination_by a b=>a.length+b.length
theorem mx:∀ l:List aH,(aV l).length=l.length/2
 | []=>by simp [aV]
 | [x]=>by simp [aV]
 | x::y::r=>by rw[aV,aO,mx r];simp;omega
theorem p9:∀ l:List aH,d8 l→d8 (aV l)
 | [],_=>List.Pairwise.nil
 | [x],_=>List.Pairwise.nil
 | x::y::r,h=>by
  have h1:=dY.1 h;have h2:=dY.1 h1.2;rw[aV];refine dY.2 ⟨?_,p9 r h2.2⟩;have key:∀ (r:List aH),(∀ z∈r,x.1≤z.1)→(∀ z∈r,y.1≤z.1)→∀ z∈aV r,x.1+y.1≤z.1:=by
   intro r
   induction r using aV.induct with
   | case1 u v r ih=>
    intro hx hy z hz;rw[aV] at hz
    rcases List.mem_cons.1 hz with rfl | hz
    ·have a:=hx u (by simp);have b:=hy v (by simp);show x.1+y.1≤u.1+v.1;omega
    ·exact ih (fun w hw=>hx w (by simp [hw])) (fun w hw=>hy w (by simp [hw])) z hz
   | case2 r hr=>
    intro _ _ z hz;rw[aV] at hz
    ·simp at hz
    ·exact hr
  exact key r (fun z hz=>h1.1 z (by simp [hz])) (fun z hz=>h2.1 z hz)
theorem qb (S:List aH) (h:d8 S):∀ k,d8 (lv S k)
 | 0=>List.Pairwise.nil
 | k+1=>tj _ _ h (p9 _ (qb S h k))
theorem tm:∀ (a b:List aH) (m:Nat),d8 a→d8 b→m≤a.length+b.length→∃ s q,s≤a.length∧q≤b.length∧s+q=m∧((bY a b).take m).Perm (a.take s++b.take q)∧
  (0<q→∀ j u z,a[j]? =some u→b[q-1]? =some z→u.1≤z.1→j<s)
 | [],b,m,_,_,hm=>⟨0,m,by simp,by simpa using hm,by omega,by simp [bY],fun _ j u z h=>by simp at h⟩
 | x::a,[],m,_,_,hm=>⟨m,0,by simpa using hm,by simp,by omega,by simp [bY],fun h=>by omega⟩
 | x::a,y::b,0,_,_,_=>⟨0,0,by simp,by simp,by omega,by simp,fun h=>by omega⟩
 | x::a,y::b,m+1,ha,hb,hm=>by
  have ha2:=dY.1 ha;have hb2:=dY.1 hb;rw[bY]
  split
  ·rename_i hle;obtain⟨s,q,h1,h2,h3,h4,h5⟩:=tm a (y::b) m ha2.2 hb (by simp at hm ⊢;omega);refine⟨s+1,q,by simp;omega,h2,by omega,?_,fun hq j u z hu hz hle2=> ?_⟩
   ·rw[ij,ij,dV];exact List.Perm.cons _ h4
   ·cases j with
    | zero=>omega
    | succ j=>have:=h5 hq j u z (by simpa using hu) hz hle2;omega
  ·rename_i hle;obtain⟨s,q,h1,h2,h3,h4,h5⟩:=tm (x::a) b m ha hb2.2 (by simp at hm ⊢;omega);refine⟨s,q+1,h1,by simp;omega,by omega,?_,fun _ j u z hu hz hle2=> ?_⟩
   ·rw[ij,ij];exact(List.Perm.cons _ h4).trans List.perm_middle.symm
   ·rw[rf] at hz
    by_cases hq:0<q
    ·refine h5 hq j u z hu ?_ hle2;obtain⟨r,rfl⟩:∃ r,q=r+1:=⟨q-1,by omega⟩;simpa using hz
    ·obtain rfl:q=0:=by omega
     simp at hz;subst hz;exfalso;cases j with
     | zero=>simp at hu;subst hu;omega
     | succ j=>
      have hm2:u∈a:=aI (by simpa using hu);have:=ha2.1 u hm2;omega
termination_by a b=>a.length+b.length
theorem x6:∀ (l:List aH) (q:Nat),2*q≤l.length→((aV l).take q).flatMap (·.2)=(l.take (2*q)).flatMap (·.2)
 | l,0,_=>by simp
 | [],q+1,h=>by simp at h
 | [x],q+1,h=>by simp at h;omega
 | x::y::r,q+1,h=>by
  rw[aV,ij,show 2*(q+1)=2*q+1+1 by omega,ij,ij];simp only[fR];rw[x6 r q (by simp at h;omega),List.append_assoc]
theorem x8:∀ (l:List aH) (q:Nat) (z:aH),(aV l)[q]? =some z→∃ u v,l[2*q]? =some u∧l[2*q+1]? =some v∧z.1=u.1+v.1
 | [],q,z,h=>by simp [aV] at h
 | [x],q,z,h=>by simp [aV] at h
 | x::y::r,0,z,h=>by simp [aV] at h;subst h;exact⟨x,y,by simp,by simp,rfl⟩
 | x::y::r,q+1,z,h=>by
  rw[aV,dE] at h;obtain⟨u,v,h1,h2,h3⟩:=x8 r q z h;exact⟨u,v,by rw[show 2*(q+1)=2*q+1+1 by omega];simpa using h1,by rw[show 2*(q+1)+1=2*q+1+1+1 by omega];simpa using h2,h3⟩
def dS (S:List aH) (k m:Nat):List Nat:=((lv S k).take m).flatMap (·.2)
def my (S:List aH) (id:Nat→Nat):Prop:=d8 S∧(∀ j u,S[j]? =some u→u.2=[id j])∧∀ i j,i<S.length→j<S.length→id i=id j→i=j
theorem FK {S:List aH} (hS:d8 S) (k m:Nat) (hm:m≤(lv S (k+1)).length):∃ s q,s≤S.length∧s+q=m∧2*q≤(lv S k).length∧(dS S (k+1) m).Perm ((S.take s).flatMap (·.2)++dS S k (2*q))∧
  (0<q→∀ j u v,S[j]? =some u→v∈(lv S k).take (2*q)→u.1≤v.1→j<s):=by
 rw[lv,nS] at hm;obtain⟨s,q,h1,h2,h3,h4,h5⟩:=tm S (aV (lv S k)) m hS (p9 _ (qb S hS k)) hm;rw[mx] at h2;have h2q:2*q≤(lv S k).length:=by omega
 refine⟨s,q,h1,h3,h2q,?_,fun hq j u v hu hv hle=> ?_⟩
 ·rw[dS,lv];have:=h4.flatMap_right (·.2);rw[kb,x6 _ _ h2q] at this;exact this
 ·have hq1:q-1<(aV (lv S k)).length:=by rw[mx];omega
  obtain⟨a,b,ha,hb,hz⟩:=x8 (lv S k) (q-1) _ (au hq1);refine h5 hq j u _ hu (au hq1) ?_;have hvb:v.1≤b.1:=by
   obtain⟨i,hi,rfl⟩:=AJ hv;rw[aL] at hi;rw[AF];have e:2*(q-1)+1=2*q-1:=by omega
   rw[e] at hb;obtain⟨hb1,hb2⟩:=cG.1 hb
   rcases bV i (2*q-1) with hlt | hge
   ·have:=oL.1 (qb S hS k) i (2*q-1) (by omega) hb1 hlt;rw[hb2] at this;exact this
   ·have:i=2*q-1:=by omega
    subst this;rw[← hb2];exact Nat.le_refl _
  omega
theorem FL {S:List aH} {id:Nat→Nat} (hS:my S id) {j:Nat} (hj:j<S.length):∀ s,s≤S.length→((S.take s).flatMap (·.2)).count (id j)=if j<s then 1 else 0:=by
 intro s
 induction s with
 | zero=>intro _;simp
 | succ s ih=>
  intro hs;have hs1:s<S.length:=by omega
  rw[List.take_succ_eq_append_getElem hs1,kb,kN,ih (by omega)];have h2:=hS.2.1 s _ (au hs1);simp only[fR,List.flatMap_nil,cy];rw[h2]
  by_cases h:j=s
  ·subst h;simp
  ·have hne:¬ id s=id j:=fun e=>h (hS.2.2 j s hj hs1 e.symm)
   rw[AK,List.count_nil];simp only[beq_iff_eq,hne,if_false]
   by_cases h3:j<s
   ·rw[if_pos h3,if_pos (by omega)]
   ·rw[if_neg h3,if_neg (by omega)]
theorem FM {S:List aH} {id:Nat→Nat} (hS:my S id) {j:Nat} (hj:j<S.length):∀ (k m:Nat),m≤(lv S k).length→0<(dS S k m).count (id j)→∃ v∈(lv S k).take m,(S[j]'hj).1≤v.1:=by
 intro k
 induction k with
 | zero=>intro m _ h;simp [dS,lv] at h
 | succ k ih=>
  intro m hm h;have hmem:id j∈dS S (k+1) m:=Lb.1 h;rw[dS,jH] at hmem;obtain⟨v,hv,hjv⟩:=hmem;refine⟨v,hv,?_⟩;have key:∀ k v,v∈lv S k→id j∈v.2→(S[j]'hj).1≤v.1:=by
   intro k
   induction k with
   | zero=>intro v hv;simp [lv] at hv
   | succ k ihk=>
    intro v hv hjv;rw[lv] at hv
    rcases mw _ _ _ hv with h | h
    ·obtain⟨i,hi,rfl⟩:=AJ h;have h2:=hS.2.1 i _ (au hi);rw[h2] at hjv;have e:id j=id i:=by simpa using hjv
     have:=hS.2.2 j i hj hi e;subst this;exact Nat.le_refl _
    ·obtain⟨i,hi,rfl⟩:=AJ h;have:∀ (l:List aH) (z:aH),z∈aV l→id j∈z.2→∃ u∈l,id j∈u.2∧u.1≤z.1:=by
      intro l
      induction l using aV.induct with
      | case1 x y r ih2=>
       intro z hz hjz;rw[aV] at hz
       rcases List.mem_cons.1 hz with rfl | hz
       ·rcases cD.1 hjz with h | h
        ·exact⟨x,by simp,h,by show x.1≤x.1+y.1;omega⟩
        ·exact⟨y,by simp,h,by show y.1≤x.1+y.1;omega⟩
       ·obtain⟨u,h1,h2,h3⟩:=ih2 z hz hjz;exact⟨u,by simp [h1],h2,h3⟩
      | case2 r hr=>
       intro z hz;rw[aV] at hz
       ·simp at hz
       ·exact hr
     obtain⟨u,h1,h2,h3⟩:=this _ _ (cT hi) hjv;have:=ihk u h1 h2;omega
  exact key (k+1) v (jf hv) hjv
def bP (S:List aH) (id:Nat→Nat) (k m j:Nat):Nat:=(dS S k m).count (id j)
theorem FN {S:List aH} {id:Nat→Nat} (hS:my S id) (k m:Nat) (hm:m≤(lv S (k+1)).length):∃ s q,s≤S.length∧s+q=m∧2*q≤(lv S k).length∧
  ∀ j,j<S.length→bP S id (k+1) m j=(if j<s then 1 else 0)+bP S id k (2*q) j∧(s≤j→bP S id k (2*q) j=0):=by
 obtain⟨s,q,h1,h2,h3,h4,h5⟩:=FK hS.1 k m hm;refine⟨s,q,h1,h2,h3,fun j hj=>⟨?_,fun hsj=> ?_⟩⟩
 ·rw[bP,h4.count_eq,kN,FL hS hj s h1];rfl
 ·rcases gm (bP S id k (2*q) j) with h | h
  ·exact h
  ·exfalso;obtain⟨v,hv,hle⟩:=FM hS hj k (2*q) h3 h;have hq:0<q:=by
    rcases gm q with e | e
    ·subst e;simp at hv
    ·exact e
   have:=h5 hq j _ v (au hj) hv hle;omega
def dn (n:Nat) (f:Nat→Nat):Nat:=((List.range n).map f).sum
theorem ig (n:Nat) (f:Nat→Nat):dn (n+1) f=dn n f+f n:=by simp [dn,gT]
theorem qc {n:Nat} {f g:Nat→Nat} (h:∀ j,j<n→f j=g j):dn n f=dn n g:=by
 induction n with
 | zero=>rfl
 | succ n ih=>rw[ig,ig,ih (fun j hj=>h j (by omega)),h n (by omega)]
theorem ya (n:Nat) (f g:Nat→Nat):dn n (fun j=>f j+g j)=dn n f+dn n g:=by
 induction n with
 | zero=>rfl
 | succ n ih=>rw[ig,ig,ig,ih];omega
theorem yb (n s c:Nat) (h:s≤n):dn n (fun j=>if j<s then c else 0)=s*c:=by
 induction n with
 | zero => obtain rfl:s=0:=by omega
           simp [dn]
 | succ n ih=>
  rw[ig]
  by_cases hs:s≤n
  ·rw[ih hs,if_neg (by omega)];omega
  ·obtain rfl:s=n+1:=by omega
   rw[if_pos (by omega),qc (g:=fun _=>c) (fun j hj=>if_pos (by omega))];clear ih h hs;have:∀ n,dn n (fun _=>c)=n*c:=by
    intro n
    induction n with
    | zero=>simp [dn]
    | succ n ih=>rw[ig,ih,dF]
   rw[this,dF]
theorem FO {S:List aH} {id:Nat→Nat} (hS:my S id):∀ (k m:Nat),m≤(lv S k).length→(∀ j,j<S.length→bP S id k m j≤k)∧2*dn S.length (fun j=>2^k-2^(k-bP S id k m j))=2^k*m:=by
 intro k
 induction k with
 | zero=>
  intro m hm;have h0:∀ j,bP S id 0 m j=0:=fun j=>by simp [bP,dS,lv]
  simp [lv] at hm;subst hm;refine⟨fun j _=>by rw[h0];exact Nat.le_refl _,?_⟩;rw[qc (g:=fun _=>0) (fun j _=>by rw[h0,rc,b8])];have:∀ n,dn n (fun _=>0)=0:=fun n=>by
   induction n with
   | zero=>rfl
   | succ n ih=>rw[ig,ih]
  rw[this]
 | succ k ih=>
  intro m hm;obtain⟨s,q,h1,h2,h3,h4⟩:=FN hS k m hm;obtain⟨i1,i2⟩:=ih (2*q) h3;refine⟨fun j hj=> ?_,?_⟩
  ·have:=(h4 j hj).1;have:=i1 j hj;split at* <;> omega
  ·have e:dn S.length (fun j=>2^(k+1)-2^(k+1-bP S id (k+1) m j))=dn S.length (fun j=>(if j<s then 2^k else 0)+(2^k-2^(k-bP S id k (2*q) j))):=by
    refine qc fun j hj=> ?_
    obtain⟨c1,c2⟩:=h4 j hj;have hk:=i1 j hj
    by_cases hjs:j<s
    ·rw[if_pos hjs] at c1 ⊢;rw[c1,show k+1-(1+bP S id k (2*q) j)=k-bP S id k (2*q) j by omega,dM];have:2^(k-bP S id k (2*q) j)≤2^k:=gj (by decide) (by omega);omega
    ·rw[if_neg hjs] at c1 ⊢;have:=c2 (by omega);rw[c1,this];simp
   rw[e,ya,yb _ _ _ h1,m3,i2,dM];have e2:2^k*(2*q)=2*(2^k*q):=by rw[m4]
   have e3:2^k*2*m=2*(2^k*s)+2*(2^k*q):=by rw[← h2,m3,iM (2^k) 2,iL,iL]
   rw[e2,e3,iM s]
theorem FP (S:List aH) (hn:1≤S.length):∀ k,2*S.length≤(lv S (k+1)).length+1+(S.length-1)/2^k:=by
 intro k
 induction k with
 | zero=>rw[lv,lv];simp [aV,nQ];omega
 | succ k ih=>
  rw[lv,nS,mx,dM,← KP];omega
theorem yc {S:List aH} {id:Nat→Nat} (hS:my S id) (h2:2≤S.length) (k:Nat) (hk:S.length≤2^(k+1)):
  2*S.length-2≤(lv S (k+1)).length∧(∀ j,j<S.length→1≤bP S id (k+1) (2*S.length-2) j∧bP S id (k+1) (2*S.length-2) j≤k+1)∧
  dn S.length (fun j=>2^(k+1-bP S id (k+1) (2*S.length-2) j))=2^(k+1):=by
 have hl:=FP S (by omega) k;have hd:(S.length-1)/2^k<2:=by
  rw[Nat.div_lt_iff_lt_mul (Ld (by simp)),iM,← dM];omega
 have hm:2*S.length-2≤(lv S (k+1)).length:=by omega
 obtain⟨c1,c2⟩:=FO hS (k+1) (2*S.length-2) hm;have hle:∀ j,j<S.length→2^(k+1-bP S id (k+1) (2*S.length-2) j)≤2^(k+1):=fun j _=>gj (by decide) (by omega)
 have hsum:dn S.length (fun j=>2^(k+1)-2^(k+1-bP S id (k+1) (2*S.length-2) j))+dn S.length (fun j=>2^(k+1-bP S id (k+1) (2*S.length-2) j))=S.length*2^(k+1):=by
  rw[← ya,qc (g:=fun j=>if j<S.length then 2^(k+1) else 0) (fun j hj=>by rw[if_pos hj];have:=hle j hj;omega),yb _ _ _ (Nat.le_refl _)]
 generalize hc:bP S id (k+1) (2*S.length-2)=c at*
 have hK:dn S.length (fun j=>2^(k+1-c j))=2^(k+1):=by
  obtain⟨n,hn⟩:∃ n,S.length=n+1:=⟨S.length-1,by omega⟩;rw[hn] at c2 hsum ⊢;rw[show 2*(n+1)-2=2*n by omega,m4] at c2;rw[dF,iM n] at hsum;omega
 refine⟨hm,fun j hj=>⟨?_,c1 j hj⟩,hK⟩
 rcases gm (c j) with h0 | h0
 ·exfalso;have split:∀ n,(∀ i,i<n→1≤2^(k+1-c i))→∀ j,j<n→2≤n→2^(k+1-c j)+1≤dn n (fun i=>2^(k+1-c i)):=by
   intro n
   induction n with
   | zero=>intro _ j hj;omega
   | succ n ih=>
    intro h1 j hj h2;rw[ig]
    rcases bV j n with hjn | hjn
    ·have hn:=h1 n (by omega);have hge:2^(k+1-c j)≤dn n (fun i=>2^(k+1-c i)):=by
      clear ih h1 h2 hj hn
      induction n with
      | zero=>omega
      | succ n ih2=>
       rw[ig]
       rcases bV j n with h | h
       ·exact dL (ih2 h) (q9 _ _)
       ·obtain rfl:j=n:=by omega
        omega
     omega
    ·obtain rfl:j=n:=by omega
     have h0:1≤dn j (fun i=>2^(k+1-c i)):=by
      obtain⟨m,rfl⟩:∃ m,j=m+1:=⟨j-1,by omega⟩;rw[ig];have:=h1 m (by omega);omega
     omega
  have:=split S.length (fun i _=>Nat.one_le_two_pow) j hj h2;rw[hK,h0] at this;simp at this;omega
 ·exact h0
def dK (x:aH):List aH→List aH
 | []=>[x]
 | y::r=>if x.1≤y.1 then x::y::r else y::dK x r
def iB (l:List aH):List aH:=l.foldr dK []
theorem FQ (x:aH):∀ (l:List aH) (z:aH),z∈dK x l↔z=x∨z∈l:=by
 intro l
 induction l with
 | nil=>intro z;simp [dK]
 | cons y r ih=>
  intro z;rw[dK]
  split
  ·simp
  ·rw[List.mem_cons,ih,List.mem_cons]
   constructor
   ·rintro(h | h | h)
    ·exact .inr (.inl h)
    ·exact .inl h
    ·exact .inr (.inr h)
   ·rintro(h | h | h)
    ·exact .inr (.inl h)
    ·exact .inl h
    ·exact .inr (.inr h)
theorem FR (x:aH):∀ l:List aH,(dK x l).Perm (x::l):=by
 intro l
 induction l with
 | nil=>exact m5 _
 | cons y r ih=>
  rw[dK]
  split
  ·exact m5 _
  ·exact(List.Perm.cons y ih).trans (List.Perm.swap x y r)
theorem FS (x:aH):∀ l:List aH,d8 l→d8 (dK x l):=by
 intro l
 induction l with
 | nil=>intro _;simp [dK,d8]
 | cons y r ih=>
  intro h;have h2:=dY.1 h;rw[dK]
  split
  ·rename_i hle;refine dY.2 ⟨fun z hz=> ?_,h⟩
   rcases List.mem_cons.1 hz with rfl | hz
   ·exact hle
   ·have:=h2.1 z hz;omega
  ·rename_i hle;refine dY.2 ⟨fun z hz=> ?_,ih h2.2⟩
   rcases(FQ x r z).1 hz with rfl | hz
   ·omega
   ·exact h2.1 z hz
theorem qe:∀ l:List aH,d8 (iB l)
 | []=>List.Pairwise.nil
 | x::l=>FS x _ (qe l)
theorem nT:∀ l:List aH,(iB l).Perm l
 | []=>m5 _
 | x::l=>(FR x _).trans (List.Perm.cons x (nT l))
theorem FT (x:aH) (w:Nat):∀ l:List aH,(dK x l).filter (fun z=>z.1==w)=if x.1=w then x::l.filter (fun z=>z.1==w) else l.filter (fun z=>z.1==w):=by
 intro l
 induction l with
 | nil=>by_cases h:x.1=w <;> simp [dK,h]
 | cons y r ih=>
  rw[dK]
  split
  ·by_cases h:x.1=w
   ·rw[if_pos h,cU,if_pos (by simpa using h)]
   ·rw[if_neg h,cU,if_neg (by simpa using h)]
  ·rename_i hle;rw[cU,ih,cU (xs:=r)]
   by_cases h:x.1=w
   ·rw[if_pos h,if_pos h,if_neg (by simp;omega),if_neg (by simp;omega)]
   ·rw[if_neg h,if_neg h]
theorem yd (w:Nat):∀ l:List aH,(iB l).filter (fun z=>z.1==w)=l.filter (fun z=>z.1==w)
 | []=>rfl
 | x::l=>by
  show(dK x (iB l)).filter _=_;rw[FT,yd w l,cU]
  by_cases h:x.1=w
  ·rw[if_pos h,if_pos (by simpa using h)]
  ·rw[if_neg h,if_neg (by simpa using h)]
theorem FU:∀ (a b:List aH),d8 a→d8 b→(∀ w,a.filter (fun z=>z.1==w)=b.filter (fun z=>z.1==w))→a=b:=by
 intro a
 induction a with
 | nil=>
  intro b _ _ h;cases b with
  | nil=>rfl
  | cons y b=>have:=h y.1;simp at this
 | cons x a ih=>
  intro b ha hb h;cases b with
  | nil=>have:=h x.1;simp at this
  | cons y b=>
   have ha2:=dY.1 ha;have hb2:=dY.1 hb;have hxb:x∈y::b:=by
    have:x∈(x::a).filter (fun z=>z.1==x.1):=by simp
    rw[h] at this;exact(jL.1 this).1
   have hya:y∈x::a:=by
    have:y∈(y::b).filter (fun z=>z.1==y.1):=by simp
    rw[← h] at this;exact(jL.1 this).1
   have hw:x.1=y.1:=by
    have h1:y.1≤x.1:=by
     rcases List.mem_cons.1 hxb with e | e
     ·rw[e];exact Nat.le_refl _
     ·exact hb2.1 x e
    have h2:x.1≤y.1:=by
     rcases List.mem_cons.1 hya with e | e
     ·rw[e];exact Nat.le_refl _
     ·exact ha2.1 y e
    omega
   have hxy:x=y:=by
    have:=h x.1;rw[cU,cU,if_pos (by simp),if_pos (by simp [hw])] at this;exact(List.cons.inj this).1
   subst hxy;rw[ih b ha2.2 hb2.2 fun w=> ?_];have:=h w;rw[cU,cU] at this
   by_cases hx:x.1=w
   ·rw[if_pos (by simpa using hx),if_pos (by simpa using hx)] at this;exact(List.cons.inj this).2
   ·rw[if_neg (by simpa using hx),if_neg (by simpa using hx)] at this;exact this
theorem FV {l l':List aH} (h1:d8 l') (h2:∀ w,l'.filter (fun z=>z.1==w)=l.filter (fun z=>z.1==w)):l'=iB l:=
 FU _ _ h1 (qe l) fun w=>by rw[h2 w,yd]
theorem FX (x:aH):∀ (a b:List aH),(∀ z∈a,x.1≤z.1)→dK x (bY a b)=bY (x::a) b:=by
 intro a b
 induction b with
 | nil=>
  intro h;rw[nQ,nQ];cases a with
  | nil=>rfl
  | cons u a=>rw[dK,if_pos (h u (by simp))]
 | cons y b ih=>
  intro h;rw[bY]
  by_cases hxy:x.1≤y.1
  ·rw[if_pos hxy];cases a with
   | nil=>simp only[bY];rw[dK,if_pos hxy]
   | cons u a=>
    rw[bY]
    split
    ·rw[dK,if_pos (h u (by simp))]
    ·rw[dK,if_pos hxy]
  ·rw[if_neg hxy];have ih:=ih h;cases a with
   | nil=>
    simp only[bY] at ih ⊢;rw[dK,if_neg hxy,ih]
   | cons u a=>
    have hu:=h u (by simp);rw[bY,if_neg (by omega),dK,if_neg hxy,ih]
theorem ye:∀ l:List aH,d8 l→iB l=l
 | [],_=>rfl
 | x::l,h=>by
  have h2:=dY.1 h;show dK x (iB l)=_;rw[ye l h2.2];cases l with
  | nil=>rfl
  | cons y l=>rw[dK,if_pos (h2.1 y (by simp))]
theorem yf:∀ (a b:List aH),d8 a→d8 b→iB (a++b)=bY a b
 | [],b,_,hb=>by rw[bH,ye b hb];simp [bY]
 | x::a,b,ha,hb=>by
  have h2:=dY.1 ha;show dK x (iB (a++b))=_;rw[yf a b h2.2 hb,FX x a b h2.1]
open Go.RowKit
def iD (n x:Nat):Nat:=if 1≤x∧x<n then 2^(n-x) else 0
def krS (n:Nat) (l:List Nat):Nat:=(l.map (iD n)).sum
theorem qf (n x:Nat) (l:List Nat):krS n (x::l)=iD n x+krS n l:=by simp [krS]
theorem qg (n:Nat) (l:List Nat):krS (n+1) l=(krS n l+dj l n)*2:=by
 induction l with
 | nil=>simp [krS,dj]
 | cons x l ih=>
  rw[qf,qf,ih];have hc:dj (x::l) n=dj l n+if 1≤n∧x=n then 1 else 0:=by
   rw[dj,dj]
   by_cases h0:n=0
   ·rw[if_pos h0,if_pos h0,if_neg (by omega)]
   ·rw[if_neg h0,if_neg h0,AK]
    by_cases hx:x=n
    ·subst hx;simp only[beq_self_eq_true,if_true];rw[if_pos (show 1≤x∧True from⟨by omega,trivial⟩)]
    ·simp [hx]
  rw[hc,iD,iD]
  by_cases h1:1≤x∧x<n
  ·rw[if_pos h1,if_pos (by omega),if_neg (by omega),show n+1-x=(n-x)+1 by omega,dM];omega
  ·by_cases h2:1≤n∧x=n
   ·obtain⟨h2,rfl⟩:=h2;rw[if_neg h1,if_pos (by omega),if_pos ⟨h2,rfl⟩,show x+1-x=1 by omega];omega
   ·rw[if_neg h1,if_neg (by omega),if_neg h2];omega
theorem tn (l:List Nat):∀ n,bC l n=krS n l:=by
 intro n
 induction n with
 | zero=>
  rw[bC]
  induction l with
  | nil=>rfl
  | cons x l ih=>rw[qf,← ih,iD,if_neg (by omega)]
 | succ n ih=>rw[bC,ih,qg]
theorem FY (l:List Nat) (n:Nat):∀ d,krS n l*2^d≤krS (n+d) l:=by
 intro d
 induction d with
 | zero=>simp
 | succ d ih=>
  rw[← da,qg,dM,← iL];exact ef _ (dL ih (q9 _ _))
theorem tp {l:List Nat} (h:krS 31 l=2^31):fullC l=true∧OkC l:=by
 refine⟨by rw[fullC,tn,h];simp,fun n hn=> ?_⟩;have e:(bC l n+dj l n)*2=krS (n+1) l:=by rw[tn,qg]
 have h1:=FY l (n+1) (30-n);rw[show n+1+(30-n)=31 by omega,h,← e,iL] at h1;have e2:2*2^(30-n)=2^(31-n):=by rw[iM,← dM];congr 1;omega
 rw[e2,show(2:Nat)^31=2^n*2^(31-n) by rw[← mT];congr 1;omega] at h1;exact Nat.le_of_mul_le_mul_right h1 (Ld (by simp))
def dT (often:List Nat) (k:Nat):List aH:=((List.range k).filter fun i=>decide (0<often.getD i 0)).map fun i=>(often.getD i 0,[i])
theorem FZ (often:List Nat) (k:Nat):dT often (k+1)=dT often k++if 0<often.getD k 0 then [(often.getD k 0,[k])] else []:=by
 rw[dT,gT,jk,List.map_append,dT]
 congr 1
 by_cases h:0<often.getD k 0
 ·rw[if_pos h,cU,if_pos (by simpa using h)];rfl
 ·rw[if_neg h,cU,if_neg (by simpa using h)];rfl
theorem yg {often:List Nat} {k:Nat} {u:aH} (h:u∈dT often k):∃ i,i<k∧0<often.getD i 0∧u=(often.getD i 0,[i]):=by
 obtain⟨i,hi,rfl⟩:=cu.1 h;obtain⟨h1,h2⟩:=jL.1 hi;exact⟨i,iP.1 h1,by simpa using h2,rfl⟩
theorem tr {often:List Nat} {k i:Nat} (h:i<k) (h0:0<often.getD i 0):(often.getD i 0,[i])∈dT often k:=
 cu.2 ⟨i,jL.2 ⟨iP.2 h,by simpa using h0⟩,rfl⟩
def comes (often:List Nat):Nat:=(dT often often.length).length
def cZ (u:aH):Nat:=u.2.headD 0
theorem F1 (often:List Nat) (k:Nat):(dT often k).map cZ=(List.range k).filter fun i=>decide (0<often.getD i 0):=by
 rw[dT,eU]
 conv=>rhs;rw[← List.map_id ((List.range k).filter fun i=>decide (0<often.getD i 0))]
 rfl
theorem F2 (often:List Nat) (k:Nat):((dT often k).map cZ).Nodup:=by
 rw[F1];exact Lh _ List.nodup_range
def bc (often:List Nat):List aH:=iB (dT often often.length)
def iE (often:List Nat) (j:Nat):Nat:=((bc often).map cZ).getD j 0
theorem mz (often:List Nat):(bc often).length=comes often:=(nT _).length_eq
theorem qh {often:List Nat} {u:aH} (h:u∈bc often):∃ i,i<often.length∧0<often.getD i 0∧u=(often.getD i 0,[i]):=yg ((nT _).mem_iff.1 h)
theorem yh (often:List Nat):((bc often).map cZ).Nodup:=((nT (dT often often.length)).map cZ).nodup_iff.2 (F2 _ _)
theorem yi (often:List Nat):my (bc often) (iE often):=by
 refine⟨qe _,fun j u hu=> ?_,fun i j hi hj h=> ?_⟩
 ·obtain⟨i,h1,h2,rfl⟩:=qh (aI hu);have e:((bc often).map cZ)[j]? =some i:=by rw[aC,hu];rfl
  show [i]=[((bc often).map cZ).getD j 0];rw[List.getD_eq_getElem?_getD (l:=(bc often).map cZ),e];rfl
 ·have h1:i<((bc often).map cZ).length:=by rw[bS];exact hi
  have h2:j<((bc often).map cZ).length:=by rw[bS];exact hj
  rw[iE,iE,List.getD_eq_getElem?_getD,List.getD_eq_getElem?_getD,au h1,au h2] at h;exact(List.getElem_inj (yh often)).1 h
theorem tu {often:List Nat} {i:Nat}:i∈(bc often).map cZ↔i<often.length∧0<often.getD i 0:=by
 constructor
 ·intro h;obtain⟨u,hu,rfl⟩:=cu.1 h;obtain⟨i,h1,h2,rfl⟩:=qh hu;exact⟨h1,h2⟩
 ·rintro⟨h1,h2⟩;exact cu.2 ⟨_,(nT _).mem_iff.2 (tr h1 h2),rfl⟩
theorem yj {often:List Nat} {i:Nat} (h:i<often.length) (h0:0<often.getD i 0):∃ j,j<(bc often).length∧iE often j=i:=by
 obtain⟨j,hj,he⟩:=kM.1 (tu.2 ⟨h,h0⟩);refine⟨j,by rw[bS] at hj;exact hj,?_⟩;rw[iE,List.getD_eq_getElem?_getD,au hj];exact he
theorem F3 (g:Nat→Nat) (N:Nat) (L:List Nat) (hn:L.Nodup) (hl:∀ i∈L,i<N) (h0:∀ i,i<N→i∉L→g i=0):((List.range N).map g).sum=(L.map g).sum:=by
 have hp:L.Perm ((List.range N).filter fun i=>decide (i∈L)):=by
  refine(List.perm_ext_iff_of_nodup hn (Lh _ List.nodup_range)).2 fun i=> ?_
  rw[jL,iP,decide_eq_true_eq];exact⟨fun h=>⟨hl i h,h⟩,fun h=>h.2⟩
 rw[(hp.map g).sum_nat];have key:∀ M:List Nat,(∀ i∈M,i<N)→(M.map g).sum=((M.filter fun i=>decide (i∈L)).map g).sum:=by
  intro M
  induction M with
  | nil=>intro _;rfl
  | cons x M ih=>
   intro hM;rw[cO,mZ,ih fun i hi=>hM i (by simp [hi]),cU]
   by_cases hx:x∈L
   ·rw[if_pos (by simpa using hx),cO,mZ]
   ·rw[if_neg (by simpa using hx),h0 x (hM x (by simp)) hx,bA]
 exact key _ fun i hi=>iP.1 hi
def ku (often:List Nat) (most:Nat):List Nat:=dS (bc often) most (2*comes often-2)
def kv (often:List Nat) (most:Nat):List Nat:=(List.range often.length).map fun i=>(ku often most).count i
structure LimOk (often:List Nat) (most:Nat) (l:List Nat):Prop where
 len:l.length=often.length
 pos:∀ i,i<often.length→(0<l.getD i 0↔0<often.getD i 0)
 le:∀ n∈l,n≤most
 full:2≤comes often→krS 31 l=2^31
 one:comes often≤1→∀ n∈l,n≤1
theorem yk {often:List Nat}:∀ k,∀ u∈lv (bc often) k,∀ i∈u.2,i<often.length∧0<often.getD i 0:=by
 intro k
 induction k with
 | zero=>intro u hu;simp [lv] at hu
 | succ k ih=>
  intro u hu i hi;rw[lv] at hu
  rcases mw _ _ _ hu with h | h
  ·obtain⟨j,h1,h2,rfl⟩:=qh h;simp at hi;subst hi;exact⟨h1,h2⟩
  ·have key:∀ l:List aH,(∀ u∈l,∀ i∈u.2,i<often.length∧0<often.getD i 0)→∀ u∈aV l,∀ i∈u.2,i<often.length∧0<often.getD i 0:=by
    intro l
    induction l using aV.induct with
    | case1 x y r ih=>
     intro hl u hu i hi;rw[aV] at hu
     rcases List.mem_cons.1 hu with rfl | hu
     ·rcases cD.1 hi with hi | hi
      ·exact hl x (by simp) i hi
      ·exact hl y (by simp) i hi
     ·exact ih (fun u hu=>hl u (by simp [hu])) u hu i hi
    | case2 l h=>
     intro hl u hu;rw[aV] at hu
     ·cases hu
     ·exact h
   exact key _ ih u h i hi
theorem tv {often:List Nat} {most i:Nat} (h:i∈ku often most):i<often.length∧0<often.getD i 0:=by
 obtain⟨u,hu,hi⟩:=jH.1 h;exact yk most u (jf hu) i hi
theorem F4 {often:List Nat} {most i:Nat} (h:i<often.length):(kv often most).getD i 0=(ku often most).count i:=by
 rw[kv,List.getD_eq_getElem?_getD,aC,dW h];rfl
theorem F5 {often:List Nat} {most:Nat} (h2:2≤comes often) (hm:comes often≤2^most) (h1:1≤most) (h30:most≤30):LimOk often most (kv often most):=by
 obtain⟨k,rfl⟩:∃ k,most=k+1:=⟨most-1,by omega⟩;have hS:=yi often;have hl:=mz often;obtain⟨q1,q2,q3⟩:=yc hS (by rw[hl];exact h2) k (by rw[hl];exact hm);rw[hl] at q1 q2 q3;have hc:∀ j,j<comes often→(ku often (k+1)).count (iE often j)=bP (bc often) (iE often) (k+1) (2*comes often-2) j:=fun j hj=>rfl
 refine⟨by simp [kv],fun i hi=> ?_,fun n hn=> ?_,fun _=> ?_,fun h=>by omega⟩
 ·rw[F4 hi]
  constructor
  ·intro h;exact(tv (Lb.1 h)).2
  ·intro h;obtain⟨j,hj,rfl⟩:=yj hi h;rw[hl] at hj;rw[hc j hj];have:=(q2 j hj).1;omega
 ·obtain⟨i,hi,rfl⟩:=cu.1 hn;have hi:=iP.1 hi
  by_cases h:0<often.getD i 0
  ·obtain⟨j,hj,rfl⟩:=yj hi h;rw[hl] at hj;rw[hc j hj];exact(q2 j hj).2
  ·rw[Lj.2 fun hm=>h (tv hm).2];omega
 ·have e:krS 31 (kv often (k+1))=((List.range often.length).map fun i=>iD 31 ((ku often (k+1)).count i)).sum:=by
   rw[krS,kv,eU];rfl
  rw[e,F3 (fun i=>iD 31 ((ku often (k+1)).count i)) often.length ((bc often).map cZ) (yh often) (fun i hi=>(tu.1 hi).1) (fun i hi hn=>by
   rw[Lj.2 fun hm=>hn (tu.2 (tv hm))];rfl)]
  have e2:(bc often).map cZ=(List.range (comes often)).map (iE often):=by
   refine lP (by simp [hl]) fun j h1 h2=> ?_
   rw[kd (f:=iE often),oN,iE,List.getD_eq_getElem?_getD,au h1];rfl
  rw[e2,eU];have e3:((List.range (comes often)).map ((fun i=>iD 31 ((ku often (k+1)).count i)) ∘ iE often)).sum=dn (comes often) fun j=>2^(30-k)*2^(k+1-bP (bc often) (iE often) (k+1) (2*comes often-2) j):=by
   rw[dn]
   congr 1
   refine lQ fun j hj=> ?_
   have hj:=iP.1 hj;obtain⟨b1,b2⟩:=q2 j hj;simp only[Function.comp_apply,hc j hj];rw[iD,if_pos (by omega),← mT]
   congr 1;omega
  rw[e3];have e4:∀ (n c:Nat) (f:Nat→Nat),dn n (fun j=>c*f j)=c*dn n f:=by
   intro n c f
   induction n with
   | zero=>rfl
   | succ n ih=>rw[ig,ig,ih,m3]
  rw[e4,q3,← mT]
  congr 1;omega
end Go.Mz
