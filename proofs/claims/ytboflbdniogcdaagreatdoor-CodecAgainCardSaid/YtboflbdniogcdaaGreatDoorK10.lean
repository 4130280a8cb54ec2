/-
  Parts of a proof.
-/
import Derived.Test.YtboflbdniogcdaaGreatDoorK00
import Derived.Test.YtboflbdniogcdaaGreatDoorK09
import Derived.Test.YtboflbdniogcdaaGreatDoorK06
import Derived.Test.YtboflbdniogcdaaGreatDoorK01
set_option linter.unusedVariables false
set_option linter.unusedSimpArgs false
set_option maxRecDepth 100000
set_option maxHeartbeats 100000000
namespace Go.Proofs.YtboflbdniogcdaaGreatDoor
open Go.RowKit Go.Mz
theorem Df {w0 w:World} {B:Nat} {va vl vg:Value} {L:List Txt} {ah:List Int} {la:List UInt8} {lo:List Nat} {F:SProp}
  (h:StL w0 w (ek B L.length va vl vg ah la lo F)) (hT:TabOk L ah la lo) (hn:L.length≤100000) (j:Nat) (t:Txt) (ht:L[j]? =some t):
  Calls Tryz.prog 155 #[.pointer (some ⟨B,0,none⟩),.int .i64 j] w fun e w'=>∃ v,e= .returned v∧
   StL w0 w' (own 5 1 v t.length (t.map bv)::ek B L.length va vl vg ah la lo F):=by
 obtain⟨a1,k1,rfl⟩:=(h.reads (i:=0) rfl).sub;obtain⟨a2,k2,rfl⟩:=(h.reads (i:=1) rfl).sub;obtain⟨a3,k3,rfl⟩:=(h.reads (i:=2) rfl).sub;have hjl:j<L.length:=(cG.1 ht).1;obtain⟨hlo,htl,_⟩:=hT.2.2.2 j t ht;have c2:=h.cell (i:=3) rfl 2 rfl;obtain⟨g,off,rfl,hc⟩:=(h.reads (i:=2) rfl).at_ hjl;have hc':(lo.map iw)[j]? =some (.int .i64 (t.length:Int)):=by simp [hlo,iw]
 rw[hc'] at hc;clear hc' hlo;have T:=cP;have HT:=ac hT;clear hT;have HTT:=ac ht;clear ht;have H:=ac h;clear h;have hj0:(0:Int)≤j:=by omega
 have hj1:(j:Int)<L.length:=by omega
 generalize hN:L.length=N at*
 generalize hM:t.length=M at*
 have HN:=ac hN;clear hN;have HM:=ac hM;clear hM;go_enter Tryz.func155,Tryz.ntmps155;go_wp2_with (at_make;apply ap);refine on (gV T rfl _ _ rfl M rfl rfl rfl rfl H.out (by unfold maxLen;omega) (by omega) ?_);intro v' w1 h1;obtain⟨a',cap',rfl⟩:=h1.reads.sub;have h1:StL w0 w1 (own 5 1 (.slice a' M cap') M ((List.replicate M (0:UInt8)++t.drop M).map bv)::ek B N (.slice a1 N k1) (.slice a2 N k2) (.slice (some ⟨g,off,none⟩) N k3) ah la lo F):=by
  have e:(madeCells (Value.int .u8 0).cells (M*1)).toList=(List.replicate M (0:UInt8)++t.drop M).map bv:=by
   rw[gz,← HM.out,kL];simp [Value.cells,toList_madeCells_one,bv]
  rw[← e];exact h1
 have H1:=ac h1;clear h1 H;go_wp2_with fail
 go_loopw [6,1] (fun i cd wr=>∃ m:Nat,m≤M∧i= .int .i64 ((m:Int)-1)∧(m=0∧cd= .int .i64 (-1)∨0<m∧∃ q:Nat,q<N∧cd= .int .i64 q∧L[q]? =some (t.take m))∧
   StL w0 wr (own 5 1 (.slice a' M cap') M ((List.replicate m (0:UInt8)++t.drop m).map bv)::ek B N (.slice a1 N k1) (.slice a2 N k2) (.slice (some ⟨g,off,none⟩) N k3) ah la lo F)) (fun i _ _=>(intOf i+1).toNat)
 case atStart=>
  refine⟨M,Nat.le_refl _,by go_num,.inr ⟨?_,j,by omega,rfl,?_⟩,H1.out⟩
  ·have:=HT.out.ne HTT.out;rw[← HM.out];exact ux.2 this
  ·rw[← HM.out,cS];exact HTT.out
 case round=>
  obtain⟨m,hm,rfl,hcd,hst⟩:=hrel
  rcases hcd with ⟨rfl,rfl⟩ | ⟨hm0,q,hq,rfl,hLq⟩
  ·have HS:=ac hst;clear hst;go_wp2_with fail;go_ret;exact⟨_,rfl,by
    have:=HS.out;simpa [HM.out] using this⟩
  ·have hmw0:IntKind.i64.wrap ((m:Int)-1-1)=((m-1:Nat):Int)-1:=by
    have:M≤100000:=by omega
    rw[IntWalk.i64_in _ (by omega)];omega
   have hi0:(0:Int)≤(m:Int)-1:=by omega
   have hi1:(m:Int)-1<M:=by omega
   have hi2:((m:Int)-1).toNat=m-1:=by omega
   have hq0:(0:Int)≤q:=by omega
   have hq1:(q:Int)<N:=by omega
   obtain⟨_,_,c,hla,hor⟩:=HT.out.2.2.2 q _ hLq;have hmt:m-1<t.length:=by have:=HM.out;omega
   have hlen:(t.take m).length=m:=by rw[aL,HM.out];omega
   have hnx:∃ x:Int,ah[q]? =some x∧t[m-1]? =some c∧(m=1∧x= -1∨1<m∧∃ p:Nat,p<N∧x=p∧L[p]? =some (t.take (m-1))):=by
    rcases hor with ⟨e1,e2⟩ | ⟨p,u,e1,e2,e3,e4,e5⟩
    ·have h1:m=1:=by rw[e1] at hlen;simpa using hlen.symm
     subst h1;refine⟨-1,e2,?_,.inl ⟨rfl,rfl⟩⟩;have:(t.take 1)[0]? =some c:=by rw[e1];rfl
     rw[fP] at this;simpa using this
    ·have hu:u.length=m-1:=by rw[e4] at hlen;simp at hlen;omega
     have hu0:0<u.length:=ux.2 e3;refine⟨p,e5,?_,.inr ⟨by omega,p,?_,rfl,?_⟩⟩
     ·have:(t.take m)[m-1]? =some c:=by rw[e4,← hu];simp
      rw[fP,if_pos (by omega)] at this;exact this
     ·rw[← HN.out];exact(cG.1 e2).1
     ·rw[e2];have:(t.take m).take (m-1)=t.take (m-1):=by rw[List.take_take];congr 1;omega
      rw[← this,e4,← hu];simp
   clear hor;obtain⟨x,hx,htc,hxor⟩:=hnx;obtain⟨g',rfl⟩:=ce (show St w0 wr (own 5 1 (.slice a' M cap') M _*_) from hst) (by omega);have d0:=hst.cell (i:=4) rfl 0 rfl;have d1:=hst.cell (i:=4) rfl 1 rfl;obtain⟨b1,o1,rfl,e1⟩:=(hst.reads (i:=1) rfl).at_ hq;obtain⟨b2,o2,rfl,e2⟩:=(hst.reads (i:=2) rfl).at_ hq;have e1':(ah.map jt)[q]? =some (.int .i64 x):=by simp [hx,jt]
   have e2':(la.map bv)[q]? =some (.int .u8 (c.toNat:Int)):=by simp [hla,bv]
   rw[e1'] at e1;rw[e2'] at e2;clear e1' e2';have hfz:=St.own_free (show St w0 wr (own 5 1 (.slice (some ⟨g',0,none⟩) M cap') M _*_) from hst) (m-1);have hcc:=St.own_cell (show St w0 wr (own 5 1 (.slice (some ⟨g',0,none⟩) M cap') M _*_) from hst) (i:=m-1) (u:= .int .u8 0) (by
    rw[aC,bK (by simp;omega),dx,if_pos (by omega)];rfl)
   have hset:StL w0 (wr.setCell ⟨g',m-1,none⟩ (.int .u8 (c.toNat:Int))) (own 5 1 (.slice (some ⟨g',0,none⟩) M cap') M ((List.replicate (m-1) (0:UInt8)++t.drop (m-1)).map bv)::ek B N (.slice (some ⟨b1,o1,none⟩) N k1) (.slice (some ⟨b2,o2,none⟩) N k2) (.slice (some ⟨g,off,none⟩) N k3) ah la lo F):=by
    have e:((List.replicate m (0:UInt8)++t.drop m).map bv).set (m-1) (.int .u8 (c.toNat:Int))=(List.replicate (m-1) (0:UInt8)++t.drop (m-1)).map bv:=by
     have e:(.int .u8 (c.toNat:Int):Value)=bv c:=rfl;rw[e,← ew]
     congr 1
     rw[KW _ _ (by simp;omega)];have e2:t.drop (m-1)=c::t.drop m:=by
      rw[dX hmt];have:t[m-1]=c:=by
       rw[au hmt] at htc;simpa using htc
      rw[this,KX hm0]
     rw[e2];have e3:(List.replicate m (0:UInt8))=List.replicate (m-1) 0++[0]:=by
      rw[← iO,KX hm0]
     rw[e3,kJ _ _ (by simp),df,b8];simp
    rw[← e];exact St.own_set (show St w0 wr (own 5 1 (.slice (some ⟨g',0,none⟩) M cap') M _*_) from hst) (m-1) _
   have n1:(wr.setCell ⟨g',m-1,none⟩ (.int .u8 (c.toNat:Int))).cell? ⟨B,0,none⟩=some (.slice (some ⟨b1,o1,none⟩) N k1):=hset.cell (i:=4) rfl 0 rfl;have n2:(wr.setCell ⟨g',m-1,none⟩ (.int .u8 (c.toNat:Int))).cell? ⟨b1,o1+q,none⟩=some (.int .i64 x):=by
    obtain⟨b1',o1',he,e⟩:=(hset.reads (i:=1) rfl).at_ hq;cases he;rw[e];simp [hx,jt]
   have HSET:=ac hset;clear hset hst;have hmw:IntKind.i64.wrap ((m:Int)-1-1)=((m-1:Nat):Int)-1:=hmw0;generalize hcn:c.toNat=cn at*
   have HX:=ac hxor;clear hxor;clear hcn hla hlen hLq hx htc;go_wp2_with fail;refine⟨⟨m-1,dL (Nat.sub_le _ _) hm,rfl,?_,HSET.out⟩,by simp [intOf];omega⟩
   rcases HX.out with ⟨rfl,rfl⟩ | ⟨h1,p,h2,rfl,h3⟩
   ·exact .inl ⟨rfl,rfl⟩
   ·exact .inr ⟨by omega,p,h2,rfl,h3⟩
def cF (B:Nat) (L:List Txt):SProp:=
 fx fun x:Value × Value × Value × List Int × List UInt8 × List Nat=>il (TabOk L x.2.2.2.1 x.2.2.2.2.1 x.2.2.2.2.2)*
  (own 3 1 x.1 L.length (x.2.2.2.1.map jt)*(own 5 1 x.2.1 L.length (x.2.2.2.2.1.map bv)*(own 3 1 x.2.2.1 L.length (x.2.2.2.2.2.map iw)*blk B (.cells #[x.1,x.2.1,x.2.2.1] 213))))
theorem pE {w0 w:World} {B:Nat} {L:List Txt} {F:SProp} (h:St w0 w (cF B L*F)):
  ∃ va vl vg ah la lo,TabOk L ah la lo∧StL w0 w (ek B L.length va vl vg ah la lo F):=by
 obtain⟨⟨va,vl,vg,ah,la,lo⟩,h⟩:=h.ex_l;obtain⟨h1,h2⟩:=(h.perm (aW _ _ _)).pure_l;refine⟨va,vl,vg,ah,la,lo,h1,h2.perm ?_⟩;simp only[ek,cX,aW];rw[fS F bw,cV]
theorem se {w0 w:World} {B:Nat} {L:List Txt} {n:Nat} {va vl vg:Value} {ah:List Int} {la:List UInt8} {lo:List Nat} {F:SProp} (hn:n=L.length) (h1:TabOk L ah la lo)
  (h:StL w0 w (ek B n va vl vg ah la lo F)):St w0 w (cF B L*F):=by
 subst hn;refine St.mk_ex_l (va,vl,vg,ah,la,lo) (St.perm (St.mk_pure_l h1 h) ?_);simp only[ek,cX,aW];rw[fS F bw,cV]
theorem wb {w0 w:World} {B:Nat} {L:List Txt} {F:SProp} (h:St w0 w (cF B L*F)):∃ a k,w.cell? ⟨B,1,none⟩=some (.slice a L.length k):=by
 obtain⟨va,vl,vg,ah,la,lo,_,h⟩:=pE h;obtain⟨a2,k2,rfl⟩:=(h.reads (i:=1) rfl).sub;exact⟨a2,k2,h.cell (i:=3) rfl 1 rfl⟩
theorem wd {w0 w:World} {F:SProp} (h:St w0 w F):
  Calls Tryz.prog 153 #[] w fun e w'=>∃ B,e= .returned (.pointer (some ⟨B,0,none⟩))∧St w0 w' (cF B bz*F):=
 (De h).mono fun e w' ⟨B,he,va,vl,vg,h'⟩=>⟨B,he,se eF.symm B7 h'⟩
theorem we {w0 w:World} {B:Nat} {L:List Txt} {F:SProp} (h:St w0 w (cF B L*F)) (hn:L.length≤5000) {i:Int} (j:Nat) (hi:i=j) {u:Txt} (hu:L[j]? =some u) (c:UInt8) {x:Int} (hx:x=c.toNat):
  Calls Tryz.prog 154 #[.pointer (some ⟨B,0,none⟩),.int .i64 i,.int .u8 x] w fun e w'=>e= .returned (.tuple #[])∧St w0 w' (cF B (L++[u++[c]])*F):=by
 subst hi hx;obtain⟨va,vl,vg,ah,la,lo,hT,h⟩:=pE h;obtain⟨a1,k1,rfl⟩:=(h.reads (i:=0) rfl).sub;obtain⟨a2,k2,rfl⟩:=(h.reads (i:=1) rfl).sub;obtain⟨a3,k3,rfl⟩:=(h.reads (i:=2) rfl).sub;obtain⟨h1,h2,_⟩:=hT.2.2.2 j u hu;refine(Dd h (by omega) j (cG.1 hu).1 c c.toNat rfl u.length h1 (by omega)).mono ?_;rintro e w' ⟨he,va,vl,vg,h'⟩;exact⟨he,se (by simp) (B8 hT hu c) h'⟩
theorem l9 {w0 w:World} {B:Nat} {L:List Txt} {F:SProp} (h:St w0 w (cF B L*F)) (hn:L.length≤5000) {i:Int} (j:Nat) (hi:i=j) {t:Txt} (ht:L[j]? =some t):
  Calls Tryz.prog 155 #[.pointer (some ⟨B,0,none⟩),.int .i64 i] w fun e w'=>∃ v,e= .returned v∧St w0 w' (own 5 1 v t.length (t.map bv)*(cF B L*F)):=by
 subst hi;obtain⟨va,vl,vg,ah,la,lo,hT,h⟩:=pE h;refine(Df h hT (by omega) j t ht).mono ?_;rintro e w' ⟨v,he,h'⟩;refine⟨v,he,?_⟩;have h2:StL w0 w' (ek B L.length va vl vg ah la lo (F*own 5 1 v t.length (t.map bv))):=St.perm h' (by simp only[ek,cX];ac_rfl);exact(se rfl hT h2).perm (by ac_rfl)
def widN (q:Nat):Nat:=if q<512 then 9 else if q<1024 then 10 else if q<2048 then 11 else 12
theorem np {w:World} {i j:Int} (q:Nat) (hq:i+j=q) (hi:0≤i) (hj:0≤j) (hq2:q≤100000):
  Calls Tryz.prog 88 #[.int .i64 i,.int .i64 j] w fun e w'=>e= .returned (.int .i64 (widN q))∧w=w':=by
 have hs:IntKind.i64.wrap (i+j)=q:=by rw[IntWalk.i64_in _ (by omega)];exact hq
 go_enter Tryz.func88,Tryz.ntmps88;go_wp2_with fail
 go_loop [5] (fun n=>∃ k:Nat,9≤k∧k≤12∧n= .int .i64 k∧(9<k→2^(k-1)≤q)) (fun n=>12-(intOf n).toNat)
 case atStart=>exact⟨9,by omega,by omega,rfl,fun h=>by omega⟩
 case round=>
  obtain⟨k,hk1,hk2,rfl,hk3⟩:=hrel;have hk:k=9∨k=10∨k=11∨k=12:=by omega
  rcases hk with rfl | rfl | rfl | rfl
  ·by_cases hc:q<512
   ·have hc':(q:Int)<512:=by omega
    have HW:=ac (show widN q=9 by rw[widN,if_pos hc]);clear hk3;go_wp2_with fail;go_ret;refine⟨?_,rfl⟩;rw[HW.out];rfl
   ·have hc':¬ (q:Int)<512:=by omega
    clear hk3;go_wp2_with fail;exact⟨⟨10,by omega,by omega,rfl,fun _=>by simp;omega⟩,by simp [intOf]⟩
  ·by_cases hc:q<1024
   ·have hc':(q:Int)<1024:=by omega
    have h5:2^9≤q:=hk3 (by omega);simp at h5;have HW:=ac (show widN q=10 by rw[widN,if_neg (show ¬ q<512 by omega),if_pos hc]);clear hk3;go_wp2_with fail;go_ret;refine⟨?_,rfl⟩;rw[HW.out];rfl
   ·have hc':¬ (q:Int)<1024:=by omega
    clear hk3;go_wp2_with fail;exact⟨⟨11,by omega,by omega,rfl,fun _=>by simp;omega⟩,by simp [intOf]⟩
  ·by_cases hc:q<2048
   ·have hc':(q:Int)<2048:=by omega
    have h5:2^10≤q:=hk3 (by omega);simp at h5;have HW:=ac (show widN q=11 by rw[widN,if_neg (show ¬ q<512 by omega),if_neg (show ¬ q<1024 by omega),if_pos hc]);clear hk3;go_wp2_with fail;go_ret;refine⟨?_,rfl⟩;rw[HW.out];rfl
   ·have hc':¬ (q:Int)<2048:=by omega
    clear hk3;go_wp2_with fail;exact⟨⟨12,by omega,by omega,rfl,fun _=>by simp;omega⟩,by simp [intOf]⟩
  ·have h5:2^11≤q:=hk3 (by omega);simp at h5;have HW:=ac (show widN q=12 by rw[widN,if_neg (show ¬ q<512 by omega),if_neg (show ¬ q<1024 by omega),if_neg (show ¬ q<2048 by omega)]);clear hk3;go_wp2_with fail;go_ret;refine⟨?_,rfl⟩;rw[HW.out];rfl
end Go.Proofs.YtboflbdniogcdaaGreatDoor
