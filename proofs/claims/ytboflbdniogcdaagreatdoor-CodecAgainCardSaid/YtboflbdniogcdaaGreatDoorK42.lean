/-
  Parts of a proof.
-/
import Derived.Test.YtboflbdniogcdaaGreatDoorK00
import Derived.Test.YtboflbdniogcdaaGreatDoorK10
import Derived.Deep.LoopGhost
import Derived.Deep.Cut
import Derived.Deep.CutRange
set_option linter.unusedVariables false
set_option linter.unusedSimpArgs false
set_option maxRecDepth 100000
set_option maxHeartbeats 100000000
namespace Go.Proofs.YtboflbdniogcdaaGreatDoor
open Go.RowKit Go.Mz
theorem nd {bits:List Nat} {old:Bool} {n g:Nat} {s:LS} {out:Txt} (h:n≤out.length):bJ bits old n (g+1) s out=(out,0):=by
 rw[bJ,if_pos h]
theorem pg {bits:List Nat} {old:Bool} {n g err:Nat} {s s':LS} {t out:Txt} {e:Bool} (h:¬ n≤out.length) (hc:codeS bits old s=(s',t,e,err)) (he:err≠0):bJ bits old n (g+1) s out=([],err):=by
 rw[bJ,if_neg h,hc];simp [he]
theorem rL {bits:List Nat} {old:Bool} {n g:Nat} {s s':LS} {t out:Txt} (h:¬ n≤out.length) (hc:codeS bits old s=(s',t,true,0)):bJ bits old n (g+1) s out=([],2):=by
 rw[bJ,if_neg h,hc];simp
theorem l7 {bits:List Nat} {old:Bool} {n g:Nat} {s s':LS} {t out:Txt} (h:¬ n≤out.length) (hc:codeS bits old s=(s',t,false,0)) (hl:n<(out++t).length):bJ bits old n (g+1) s out=([],5):=by
 rw[bJ,if_neg h,hc];have:n<out.length+t.length:=by simpa using hl
 simp [this]
theorem kZ {bits:List Nat} {old:Bool} {n g:Nat} {s s':LS} {t out:Txt} (h:¬ n≤out.length) (hc:codeS bits old s=(s',t,false,0)) (hl:¬ n<(out++t).length):bJ bits old n (g+1) s out=bJ bits old n g s' (out++t):=by
 rw[bJ,if_neg h,hc];have:¬ n<out.length+t.length:=by simpa using hl
 simp [this]
theorem qR {w0 w:World} {B:Nat} {L:List Txt} {F:SProp} (h:St w0 w (cF B L*F)) {i:Nat} {t:Txt} (hi:L[i]? =some t):t.length≤L.length∧t≠[]:=by
 obtain⟨va,vl,vg,ah,la,lo,hT,_⟩:=pE h;exact⟨(hT.2.2.2 i t hi).2.1,hT.ne hi⟩
theorem vJ {bits:List Nat} {old:Bool} {s:LS} (h:bits.length<s.p+dr s.L.length old):codeS bits old s=(s,[],false,2):=by
 rw[codeS,if_pos h]
section
variable {bits:List Nat} {old:Bool} {L:List Txt} {a:Txt} {p c W:Nat} (hW:dr L.length old=W) (h0:¬ bits.length<p+W) (hc:bW bits old ⟨L,a,p⟩=c)
include hW h0 hc
theorem pj (h:c=256):codeS bits old ⟨L,a,p⟩=(⟨bz,[],p+W⟩,[],false,0):=by
 subst hW hc;rw[codeS,if_neg h0,if_pos h]
theorem po (h:c=257):codeS bits old ⟨L,a,p⟩=(⟨L,a,p+W⟩,[],true,0):=by
 subst hW hc;rw[codeS,if_neg h0,if_neg (by omega),if_pos h]
theorem vK (h1:¬ c=256) (h2:¬ c=257) (ha:a=[]) (h:255<c):codeS bits old ⟨L,a,p⟩=(⟨L,a,p+W⟩,[],false,6):=by
 subst hW hc;rw[codeS,if_neg h0,if_neg h1,if_neg h2,if_pos ⟨ha,h⟩]
theorem rM (h1:¬ c=256) (h2:¬ c=257) (ha:a=[]) (h:¬ 255<c) {t:Txt} (ht:L[c]? =some t):codeS bits old ⟨L,a,p⟩=(⟨L,t,p+W⟩,t,false,0):=by
 subst hW hc;have:L.getD (bW bits old ⟨L,a,p⟩) []=t:=by rw[List.getD_eq_getElem?_getD,ht];rfl
 rw[codeS,if_neg h0,if_neg h1,if_neg h2,if_neg (fun h'=>h h'.2),if_pos ha,this]
theorem vL (h1:¬ c=256) (h2:¬ c=257) (ha:a≠[]) (h:L.length<c∨c=L.length∧4096≤L.length):codeS bits old ⟨L,a,p⟩=(⟨L,a,p+W⟩,[],false,6):=by
 subst hW hc;rw[codeS,if_neg h0,if_neg h1,if_neg h2,if_neg (fun h'=>ha h'.1),if_neg ha,if_pos h]
theorem vM (h1:¬ c=256) (h2:¬ c=257) (ha:a≠[]) (h:c<L.length) (hf:¬ L.length<4096) {t:Txt} (ht:L[c]? =some t):codeS bits old ⟨L,a,p⟩=(⟨L,t,p+W⟩,t,false,0):=by
 subst hW hc;have:L.getD (bW bits old ⟨L,a,p⟩) []=t:=by rw[List.getD_eq_getElem?_getD,ht];rfl
 rw[codeS,if_neg h0,if_neg h1,if_neg h2,if_neg (fun h'=>ha h'.1),if_neg ha,if_neg (show ¬ (L.length<bW bits old ⟨L,a,p⟩∨bW bits old ⟨L,a,p⟩=L.length∧4096≤L.length) by omega)];simp only[if_pos h,if_neg hf,this]
theorem rN (h1:¬ c=256) (h2:¬ c=257) (ha:a≠[]) (h:c<L.length) (hf:L.length<4096) {d:UInt8} {t:Txt} (ht:L[c]? =some (d::t)):codeS bits old ⟨L,a,p⟩=(⟨L++[a++[d]],d::t,p+W⟩,d::t,false,0):=by
 subst hW hc;have:L.getD (bW bits old ⟨L,a,p⟩) []=d::t:=by rw[List.getD_eq_getElem?_getD,ht];rfl
 rw[codeS,if_neg h0,if_neg h1,if_neg h2,if_neg (fun h'=>ha h'.1),if_neg ha,if_neg (show ¬ (L.length<bW bits old ⟨L,a,p⟩∨bW bits old ⟨L,a,p⟩=L.length∧4096≤L.length) by omega)];simp only[if_pos h,if_pos hf,this];rfl
theorem rO (h1:¬ c=256) (h2:¬ c=257) {d:UInt8} {t:Txt} (ha:a=d::t) (h:c=L.length) (hf:L.length<4096):codeS bits old ⟨L,a,p⟩=(⟨L++[a++[d]],a++[d],p+W⟩,a++[d],false,0):=by
 subst hW hc;have ha':a≠[]:=by rw[ha];simp
 rw[codeS,if_neg h0,if_neg h1,if_neg h2,if_neg (fun h'=>ha' h'.1),if_neg ha',if_neg (show ¬ (L.length<bW bits old ⟨L,a,p⟩∨bW bits old ⟨L,a,p⟩=L.length∧4096≤L.length) by omega)];rw[ha] at*
 simp only[if_neg (show ¬ bW bits old ⟨L,d::t,p⟩<L.length by omega),if_pos hf];rfl
end
def JY (bits:List Nat) (bs:List UInt8) (old:Bool) (n:Nat) (R:Txt × Nat) (F:SProp) (w0:World) (Rb:Nat) (g:Nat) (vo vt vw:Value) (wr:World):Prop:=
 ∃ (L:List Txt) (a:Txt) (p:Nat) (out:Txt) (T:Nat),vt= .pointer (some ⟨T,0,none⟩)∧(a=[]∧vw= .int .i64 (-1)∨∃ j:Nat,vw= .int .i64 j∧L[j]? =some a)∧
  258≤L.length∧L.length≤4096∧p≤8*bs.length∧8*bs.length+1≤p+g∧out.length≤n∧bJ bits old n g ⟨L,a,p⟩ out=R∧
  St w0 wr (own 5 1 vo out.length (out.map bv)*(cF T L*(aq Rb bs p old*F)))
theorem JZ {w0 w:World} {F:SProp} (h:St w0 w F) (bs:List UInt8) {v:Value} (hv:Stb w0 F (fun w=>Reads w 1 v bs.length (bs.map bv))) (hl:bs.length≤1000000000) (n:Nat) (hn:n≤1000000000) (old:Bool)
  (bits:List Nat) (hbits:bits=ag old bs) (R:Txt × Nat) (hR:bJ bits old n (8*bs.length+1) ⟨bz,[],0⟩ []=R):
  Calls Tryz.prog 119 #[v,.int .i64 n,.bool old] w fun e w'=>∃ v',e= .returned (.tuple #[v',.int .i64 R.2])∧St w0 w' (own 5 1 v' R.1.length (R.1.map bv)*F):=by
 obtain⟨av,cv,rfl⟩:=(hv w h).sub;have H:=ac h;clear h;have HV:=ac hv;clear hv;have HR:=ac hR;clear hR;have HB:=ac hbits;clear hbits;have T:=cP;go_enter Tryz.func119,Tryz.ntmps119;go_wp2_with fail;refine(lV H.out HV.out (by omega)).mono ?_;rintro e w1 ⟨Rb,rfl,h1⟩;have H1:=ac h1;clear h1;have hearly:∃ ey:Nat,ey≤1∧ey=(if old then 0 else 1):=⟨_,by split <;> omega,rfl⟩;obtain⟨ey,hey,hey2⟩:=hearly;have HEY:=ac hey2;clear hey2
 go_upto_if 22 with (fail)
 go_cut [9] from 22 to 22 (fun e wx=>e= .int .i64 ey∧wx=w1)
 case first=>
  cases old
  ·obtain rfl:ey=1:=HEY.out;go_wp2_with fail
   go_meet
   exact⟨rfl,rfl⟩
  ·obtain rfl:ey=0:=HEY.out;go_wp2_with fail
   go_meet
   exact⟨rfl,rfl⟩
 case rest=>
  obtain⟨rfl,rfl⟩:=hcut;have h2:=(H1.out.lit #[] 5 0 rfl (by unfold maxLen;omega));have H3:=ac h2;clear h2 H1;go_wp2_with fail;refine(wd H3.out).mono ?_;rintro e w2 ⟨T0,rfl,h2⟩;have H4:=ac (h2.perm (show cF T0 bz*(own 5 1 _ 0 []*(aq Rb bs 0 old*F))=own 5 1 _ 0 []*(cF T0 bz*(aq Rb bs 0 old*F)) by ac_rfl));clear h2 H3;have hst0:=eF;go_wp2_with fail
  go_loopg [10,11,12] (8*bs.length+1) (fun g vo vt vw wr=>JY bits bs old n R F w0 Rb g vo vt vw wr)
  case atStart=>exact⟨bz,[],0,[],T0,rfl,.inl ⟨rfl,rfl⟩,by rw[hst0];omega,by rw[hst0];omega,by omega,by omega,by simp,HR.out,H4.out⟩
  case round=>
   clear H4 HR H HV hst0;obtain⟨L,a,p,out,T1,rfl,hwas,hL1,hL2,hp,hg,hol,hdec,hst⟩:=hrel;obtain⟨g,rfl⟩:∃ g,gk=g+1:=⟨gk-1,by omega⟩;obtain⟨ao,co,rfl⟩:=hst.reads.sub;have HX:=ac hdec;clear hdec
   by_cases hdone:n≤out.length
   ·have HRR:=ac (show R=(out,0) by rw[← HX.out,nd hdone]);have HS:=ac hst;clear hst;have c1:¬ (out.length:Int)<n:=by omega
    go_wp2_with fail;go_ret2;refine⟨.slice ao out.length co,by rw[HRR.out];rfl,?_⟩;rw[HRR.out];exact(HS.out.perm (show _=(cF T1 L*aq Rb bs p old)*(own 5 1 (.slice ao out.length co) out.length (out.map bv)*F) by ac_rfl)).right
   have d0:(out.length:Int)<n:=by omega
   have hst:=hst.perm (show _=cF T1 L*(aq Rb bs p old*(own 5 1 (.slice ao out.length co) out.length (out.map bv)*F)) by ac_rfl);obtain⟨ta,tk,ht1⟩:=wb hst;have HS:=ac hst;clear hst;go_wp2_with fail;refine(np (L.length+ey) (by omega) (by omega) (by omega) (by omega)).mono ?_;rintro e w3 ⟨rfl,rfl⟩;have hW:dr L.length old=widN (L.length+ey):=by
    rw[HEY.out];cases old <;> simp [dr,widN]
   have hW2:=B6 L.length old;rw[hW] at hW2;have HW:=ac hW;clear hW;generalize widN (L.length+ey)=W at*
   have hbl:bits.length=8*bs.length:=by rw[HB.out,bM]
   have HBL:=ac hbl;clear hbl
   by_cases hcut:8*bs.length<p+W
   ·have HRR:=ac (show R=([],2) by
     rw[← HX.out];exact pg hdone (vJ (by rw[HBL.out,HW.out];exact hcut)) (by decide))
    go_wp2_with fail;refine(jn (HS.out.perm (ak _ _ _)) W rfl (by omega) hcut).mono ?_;rintro e w4 ⟨rfl,h4⟩;have H4:=ac h4;clear h4;go_wp2_with fail;go_ret2;refine⟨.slice none 0 0,by rw[HRR.out];rfl,?_⟩;rw[HRR.out];exact St.own_nil _ _ (H4.out.perm (show _=(aq Rb bs p old*cF T1 L*own 5 1 (.slice ao out.length co) out.length (out.map bv))*F by ac_rfl)).right
   go_wp2_with fail;refine(iR (HS.out.perm (ak _ _ _)) W rfl (by omega) (by omega)).mono ?_;rintro e w4 ⟨rfl,h4⟩;have hcA:bW bits old ⟨L,a,p⟩=bL bs old p W:=by
    rw[uR,bW,HW.out,HB.out]
   have hcl:bL bs old p W<4096:=qX (kQ _ _ _ _) (gj (n:=2) (by decide) hW2.2);have HCA:=ac hcA;clear hcA;generalize bL bs old p W=c at*
   obtain⟨tb,tk2,ht2⟩:=wb (h4.perm (ak _ _ _));have H4:=ac h4;clear h4 HS ht1;have HC0:=ac (show ¬ bits.length<p+W by rw[HBL.out];exact hcut)
   by_cases k1:c=256
   ·have HCS:=ac (pj HW.out HC0.out HCA.out k1);subst k1;go_wp2_with fail;refine(wd (H4.out.perm (show _=cF T1 L*(aq Rb bs (p+W) old*(own 5 1 (.slice ao out.length co) out.length (out.map bv)*F)) by ac_rfl)).right).mono ?_;rintro e w5 ⟨T2,rfl,h5⟩;have H5:=ac h5;clear h5;have hst0:=eF;go_wp2_with fail
    go_roundg g
    case measure=>omega
    case rel=>
     refine⟨bz,[],p+W,out,T2,rfl,.inl ⟨rfl,rfl⟩,by rw[hst0];omega,by rw[hst0];omega,by omega,by omega,hol,?_,H5.out.perm (by ac_rfl)⟩;rw[← HX.out,kZ hdone HCS.out (by rw[cy];omega),cy]
   have i1:¬ (c:Int)=256:=by omega
   by_cases k2:c=257
   ·have HRR:=ac (show R=([],2) by rw[← HX.out];exact rL hdone (po HW.out HC0.out HCA.out k2));subst k2;go_wp2_with fail;go_ret2;refine⟨.slice none 0 0,by rw[HRR.out];rfl,?_⟩;rw[HRR.out];exact St.own_nil _ _ (H4.out.perm (show _=(aq Rb bs (p+W) old*cF T1 L*own 5 1 (.slice ao out.length co) out.length (out.map bv))*F by ac_rfl)).right
   have i2:¬ (c:Int)=257:=by omega
   rcases hwas with ⟨ha,rfl⟩ | ⟨j,rfl,hj⟩
   ·by_cases k3:255<c
    ·have HRR:=ac (show R=([],6) by rw[← HX.out];exact pg hdone (vK HW.out HC0.out HCA.out k1 k2 ha k3) (by decide));have i3:(255:Int)<c:=by omega
     go_wp2_with fail;go_ret2;refine⟨.slice none 0 0,by rw[HRR.out];rfl,?_⟩;rw[HRR.out];exact St.own_nil _ _ (H4.out.perm (show _=(aq Rb bs (p+W) old*cF T1 L*own 5 1 (.slice ao out.length co) out.length (out.map bv))*F by ac_rfl)).right
    ·obtain⟨t,ht⟩:∃ t,L[c]? =some t:=⟨L[c]'(by omega),by simp⟩;have HCS:=ac (rM HW.out HC0.out HCA.out k1 k2 ha k3 ht);have H5:=ac (H4.out.perm (show _=cF T1 L*(aq Rb bs (p+W) old*(own 5 1 (.slice ao out.length co) out.length (out.map bv)*F)) by ac_rfl));have htl:=(qR H5.out ht).1;have HT:=ac ht;clear ht;have i3:¬ (255:Int)<c:=by omega
     have i4:¬ (L.length:Int)<c:=by omega
     have i5:¬ (c:Int)=L.length:=by omega
     have hM1:=hL1;have hM2:=hL2;clear H4;go_wp2_with fail;refine(l9 H5.out (by omega) (c) rfl HT.out).mono ?_;rintro e w6 ⟨vt,rfl,h6⟩;obtain⟨at6,ct,rfl⟩:=h6.reads.sub;have H6:=ac h6;clear h6;go_wp2_with (at_builtin;apply ap);refine on (aG T rfl _ _ rfl rfl (H6.out.perm (show _=own 5 1 (.slice ao out.length co) out.length (out.map bv)*(own 5 1 (.slice at6 (t).length ct) (t).length ((t).map bv)*(cF T1 (L)*(aq Rb bs (p+W) old*F))) by ac_rfl)) rfl H6.out.reads (dN (t)) ?_ ?_ ?_)
     ·unfold maxLen;omega
     ·omega
     intro v' w7 h7 _;rw[← List.map_append] at h7;obtain⟨a7,c7,rfl⟩:=h7.reads.sub;have H7:=ac h7;clear h7;clear H6 H5
     by_cases hlong:n<out.length+(t).length
     ·have HRR:=ac (show R=([],5) by rw[← HX.out];exact l7 hdone HCS.out (by rw[ae];exact hlong));have l1:(n:Int)<(out.length:Int)+(t).length:=by omega
      go_wp2_with fail;go_ret2;refine⟨.slice none 0 0,by rw[HRR.out];rfl,?_⟩;rw[HRR.out];exact St.own_nil _ _ (H7.out.perm (show _=(own 5 1 (.slice a7 (out.length+(t).length) c7) (out.length+(t).length) ((out++(t)).map bv)*own 5 1 (.slice at6 (t).length ct) (t).length ((t).map bv)*cF T1 (L)*aq Rb bs (p+W) old)*F by ac_rfl)).right
     ·have l1:¬ (n:Int)<(out.length:Int)+(t).length:=by omega
      go_wp2_with fail
      go_roundg g
      case measure=>omega
      case rel=>
       refine⟨L,t,p+W,out++(t),T1,rfl,.inr ⟨c,rfl,HT.out⟩,hM1,hM2,by omega,by omega,by rw[ae];omega,?_,?_⟩
       ·rw[← HX.out,kZ hdone HCS.out (by rw[ae];exact hlong)]
       ·rw[ae];exact(H7.out.perm (show _=own 5 1 (.slice at6 (t).length ct) (t).length ((t).map bv)*(own 5 1 (.slice a7 (out.length+(t).length) c7) (out.length+(t).length) ((out++(t)).map bv)*(cF T1 (L)*(aq Rb bs (p+W) old*F))) by ac_rfl)).right
   ·have H5:=ac (H4.out.perm (show _=cF T1 L*(aq Rb bs (p+W) old*(own 5 1 (.slice ao out.length co) out.length (out.map bv)*F)) by ac_rfl));obtain⟨hal,hane⟩:=qR H5.out hj;have hjl:j<L.length:=(cG.1 hj).1;have HJ:=ac hj;clear hj;have j0:¬ (j:Int)<0:=by omega
    by_cases k3:L.length<c
    ·have HRR:=ac (show R=([],6) by rw[← HX.out];exact pg hdone (vL HW.out HC0.out HCA.out k1 k2 hane (.inl k3)) (by decide));have i3:(L.length:Int)<c:=by omega
     go_wp2_with fail;go_ret2;refine⟨.slice none 0 0,by rw[HRR.out];rfl,?_⟩;rw[HRR.out];exact St.own_nil _ _ (H4.out.perm (show _=(aq Rb bs (p+W) old*cF T1 L*own 5 1 (.slice ao out.length co) out.length (out.map bv))*F by ac_rfl)).right
    have i3:¬ (L.length:Int)<c:=by omega
    by_cases k4:c=L.length
    ·skip
     have i5:¬ (4096:Int)≤L.length:=by omega
     have i6:(L.length:Int)<4096:=by omega
     obtain⟨d,at_,rfl⟩:∃ d t,a=d::t:=by
      cases a with
      | nil=>exact absurd rfl hane
      | cons d t=>exact⟨d,t,rfl⟩
     have HCS:=ac (rO HW.out HC0.out HCA.out k1 k2 rfl k4 (by omega));subst k4;have HT:=ac (show(L++[d::at_++[d]])[L.length]? =some (d::at_++[d]) by simp);clear i3;generalize hNL:L.length=NL at*
     have HNL:=ac hNL;clear hNL;clear H4;go_wp2_with fail;refine(l9 H5.out (by rw[HNL.out];omega) j rfl HJ.out).mono ?_;rintro e w6 ⟨vt,rfl,h6⟩;obtain⟨at6,ct,rfl⟩:=h6.reads.sub;obtain⟨b6,o6,rfl,e6⟩:=h6.reads.at_ (j:=0) (by simp);have e6:w6.cell? ⟨b6,o6,none⟩=some (.int .u8 (d.toNat:Int)):=e6;have H6:=ac h6.right;clear h6 H5;have hdl:(0:Int)<((d::at_).length:Int):=by rw[aO];omega
     generalize haa:d::at_=aa at*
     clear haa;go_wp2_with fail;refine(we H6.out (by rw[HNL.out];omega) j rfl HJ.out d rfl).mono ?_;rintro e w8 ⟨rfl,h8⟩;have hM1:258≤(L++[aa++[d]]).length:=by rw[ae,HNL.out];simp;omega
     have hM2:(L++[aa++[d]]).length≤4096:=by rw[ae,HNL.out];simp;omega
     have H5:=ac h8;clear h8 H6;have htl:=(qR H5.out HT.out).1;generalize hLL:L++[aa++[d]]=LL at*
     generalize htt:aa++[d]=tt at*
     clear hLL htt;go_wp2_with fail;refine(l9 H5.out (by omega) (NL) rfl HT.out).mono ?_;rintro e w6 ⟨vt,rfl,h6⟩;obtain⟨at6,ct,rfl⟩:=h6.reads.sub;have H6:=ac h6;clear h6;go_wp2_with (at_builtin;apply ap);refine on (aG T rfl _ _ rfl rfl (H6.out.perm (show _=own 5 1 (.slice ao out.length co) out.length (out.map bv)*(own 5 1 (.slice at6 (tt).length ct) (tt).length ((tt).map bv)*(cF T1 (LL)*(aq Rb bs (p+W) old*F))) by ac_rfl)) rfl H6.out.reads (dN (tt)) ?_ ?_ ?_)
     ·unfold maxLen;omega
     ·omega
     intro v' w7 h7 _;rw[← List.map_append] at h7;obtain⟨a7,c7,rfl⟩:=h7.reads.sub;have H7:=ac h7;clear h7;clear H6 H5
     by_cases hlong:n<out.length+(tt).length
     ·have HRR:=ac (show R=([],5) by rw[← HX.out];exact l7 hdone HCS.out (by rw[ae];exact hlong));have l1:(n:Int)<(out.length:Int)+(tt).length:=by omega
      go_wp2_with fail;go_ret2;refine⟨.slice none 0 0,by rw[HRR.out];rfl,?_⟩;rw[HRR.out];exact St.own_nil _ _ (H7.out.perm (show _=(own 5 1 (.slice a7 (out.length+(tt).length) c7) (out.length+(tt).length) ((out++(tt)).map bv)*own 5 1 (.slice at6 (tt).length ct) (tt).length ((tt).map bv)*cF T1 (LL)*aq Rb bs (p+W) old)*F by ac_rfl)).right
     ·have l1:¬ (n:Int)<(out.length:Int)+(tt).length:=by omega
      go_wp2_with fail
      go_roundg g
      case measure=>omega
      case rel=>
       refine⟨LL,tt,p+W,out++(tt),T1,rfl,.inr ⟨NL,rfl,HT.out⟩,hM1,hM2,by omega,by omega,by rw[ae];omega,?_,?_⟩
       ·rw[← HX.out,kZ hdone HCS.out (by rw[ae];exact hlong)]
       ·rw[ae];exact(H7.out.perm (show _=own 5 1 (.slice at6 (tt).length ct) (tt).length ((tt).map bv)*(own 5 1 (.slice a7 (out.length+(tt).length) c7) (out.length+(tt).length) ((out++(tt)).map bv)*(cF T1 (LL)*(aq Rb bs (p+W) old*F))) by ac_rfl)).right
    have i4:¬ (c:Int)=L.length:=by omega
    have i4':(c:Int)<L.length:=by omega
    obtain⟨t,ht⟩:∃ t,L[c]? =some t:=⟨L[c]'(by omega),by simp⟩;obtain⟨htl,htne⟩:=qR H5.out ht
    by_cases k5:L.length<4096
    ·have i6:(L.length:Int)<4096:=by omega
     obtain⟨d,t2,rfl⟩:∃ d t2,t=d::t2:=by
      cases t with
      | nil=>exact absurd rfl htne
      | cons d t=>exact⟨d,t,rfl⟩
     have HCS:=ac (rN HW.out HC0.out HCA.out k1 k2 hane (by omega) k5 ht);have HT:=ac (show(L++[a++[d]])[c]? =some (d::t2) by rw[bK (by omega)];exact ht);have HT0:=ac ht;clear ht;clear H4;go_wp2_with fail;refine(l9 H5.out (by omega) c rfl HT0.out).mono ?_;rintro e w6 ⟨vt,rfl,h6⟩;obtain⟨at6,ct,rfl⟩:=h6.reads.sub;obtain⟨b6,o6,rfl,e6⟩:=h6.reads.at_ (j:=0) (by simp);have e6:w6.cell? ⟨b6,o6,none⟩=some (.int .u8 (d.toNat:Int)):=e6;have H6:=ac h6.right;clear h6 H5;have hdl:(0:Int)<((d::t2).length:Int):=by rw[aO];omega
     generalize htt:d::t2=tt at*
     clear htt;go_wp2_with fail;refine(we H6.out (by omega) j rfl HJ.out d rfl).mono ?_;rintro e w8 ⟨rfl,h8⟩;have hM1:258≤(L++[a++[d]]).length:=by simp;omega
     have hM2:(L++[a++[d]]).length≤4096:=by simp;omega
     have H5:=ac h8;clear h8 H6;generalize hLL:L++[a++[d]]=LL at*
     clear hLL;go_wp2_with fail;refine(l9 H5.out (by omega) (c) rfl HT.out).mono ?_;rintro e w6 ⟨vt,rfl,h6⟩;obtain⟨at6,ct,rfl⟩:=h6.reads.sub;have H6:=ac h6;clear h6;go_wp2_with (at_builtin;apply ap);refine on (aG T rfl _ _ rfl rfl (H6.out.perm (show _=own 5 1 (.slice ao out.length co) out.length (out.map bv)*(own 5 1 (.slice at6 (tt).length ct) (tt).length ((tt).map bv)*(cF T1 (LL)*(aq Rb bs (p+W) old*F))) by ac_rfl)) rfl H6.out.reads (dN (tt)) ?_ ?_ ?_)
     ·unfold maxLen;omega
     ·omega
     intro v' w7 h7 _;rw[← List.map_append] at h7;obtain⟨a7,c7,rfl⟩:=h7.reads.sub;have H7:=ac h7;clear h7;clear H6 H5
     by_cases hlong:n<out.length+(tt).length
     ·have HRR:=ac (show R=([],5) by rw[← HX.out];exact l7 hdone HCS.out (by rw[ae];exact hlong));have l1:(n:Int)<(out.length:Int)+(tt).length:=by omega
      go_wp2_with fail;go_ret2;refine⟨.slice none 0 0,by rw[HRR.out];rfl,?_⟩;rw[HRR.out];exact St.own_nil _ _ (H7.out.perm (show _=(own 5 1 (.slice a7 (out.length+(tt).length) c7) (out.length+(tt).length) ((out++(tt)).map bv)*own 5 1 (.slice at6 (tt).length ct) (tt).length ((tt).map bv)*cF T1 (LL)*aq Rb bs (p+W) old)*F by ac_rfl)).right
     ·have l1:¬ (n:Int)<(out.length:Int)+(tt).length:=by omega
      go_wp2_with fail
      go_roundg g
      case measure=>omega
      case rel=>
       refine⟨LL,tt,p+W,out++(tt),T1,rfl,.inr ⟨c,rfl,HT.out⟩,hM1,hM2,by omega,by omega,by rw[ae];omega,?_,?_⟩
       ·rw[← HX.out,kZ hdone HCS.out (by rw[ae];exact hlong)]
       ·rw[ae];exact(H7.out.perm (show _=own 5 1 (.slice at6 (tt).length ct) (tt).length ((tt).map bv)*(own 5 1 (.slice a7 (out.length+(tt).length) c7) (out.length+(tt).length) ((out++(tt)).map bv)*(cF T1 (LL)*(aq Rb bs (p+W) old*F))) by ac_rfl)).right
    ·have i6:¬ (L.length:Int)<4096:=by omega
     have HCS:=ac (vM HW.out HC0.out HCA.out k1 k2 hane (by omega) k5 ht);have HT:=ac ht;clear ht;have hM1:=hL1;have hM2:=hL2;clear H4;go_wp2_with fail;refine(l9 H5.out (by omega) (c) rfl HT.out).mono ?_;rintro e w6 ⟨vt,rfl,h6⟩;obtain⟨at6,ct,rfl⟩:=h6.reads.sub;have H6:=ac h6;clear h6;go_wp2_with (at_builtin;apply ap);refine on (aG T rfl _ _ rfl rfl (H6.out.perm (show _=own 5 1 (.slice ao out.length co) out.length (out.map bv)*(own 5 1 (.slice at6 (t).length ct) (t).length ((t).map bv)*(cF T1 (L)*(aq Rb bs (p+W) old*F))) by ac_rfl)) rfl H6.out.reads (dN (t)) ?_ ?_ ?_)
     ·unfold maxLen;omega
     ·omega
     intro v' w7 h7 _;rw[← List.map_append] at h7;obtain⟨a7,c7,rfl⟩:=h7.reads.sub;have H7:=ac h7;clear h7;clear H6 H5
     by_cases hlong:n<out.length+(t).length
     ·have HRR:=ac (show R=([],5) by rw[← HX.out];exact l7 hdone HCS.out (by rw[ae];exact hlong));have l1:(n:Int)<(out.length:Int)+(t).length:=by omega
      go_wp2_with fail;go_ret2;refine⟨.slice none 0 0,by rw[HRR.out];rfl,?_⟩;rw[HRR.out];exact St.own_nil _ _ (H7.out.perm (show _=(own 5 1 (.slice a7 (out.length+(t).length) c7) (out.length+(t).length) ((out++(t)).map bv)*own 5 1 (.slice at6 (t).length ct) (t).length ((t).map bv)*cF T1 (L)*aq Rb bs (p+W) old)*F by ac_rfl)).right
     ·have l1:¬ (n:Int)<(out.length:Int)+(t).length:=by omega
      go_wp2_with fail
      go_roundg g
      case measure=>omega
      case rel=>
       refine⟨L,t,p+W,out++(t),T1,rfl,.inr ⟨c,rfl,HT.out⟩,hM1,hM2,by omega,by omega,by rw[ae];omega,?_,?_⟩
       ·rw[← HX.out,kZ hdone HCS.out (by rw[ae];exact hlong)]
       ·rw[ae];exact(H7.out.perm (show _=own 5 1 (.slice at6 (t).length ct) (t).length ((t).map bv)*(own 5 1 (.slice a7 (out.length+(t).length) c7) (out.length+(t).length) ((out++(t)).map bv)*(cF T1 (L)*(aq Rb bs (p+W) old*F))) by ac_rfl)).right
end Go.Proofs.YtboflbdniogcdaaGreatDoor
