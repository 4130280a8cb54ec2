/-
  Parts of a proof.
-/
import Derived.Test.YtboflbdniogcdaaGreatDoorK15
import Derived.Test.YtboflbdniogcdaaGreatDoorK10
set_option linter.unusedVariables false
set_option linter.unusedSimpArgs false
set_option maxRecDepth 100000
set_option maxHeartbeats 100000000
namespace Go.Proofs.YtboflbdniogcdaaGreatDoor
open Go.RowKit Go.Mz
theorem uz {w0 w:World} {m n n':Nat} {M:fd} {F:SProp} (hn:n≤n') (h:St w0 w (ge m n M*F)):St w0 w (ge m n' M*F):=
 h.imp_l fun _ ⟨x,h1,h2,d,u,⟨⟨g1,g2,g3⟩,e⟩,b⟩=>⟨x,h1,h2,d,u,⟨⟨g1,cX g2 hn,g3⟩,e⟩,b⟩
def B7 (bs:List UInt8) (F:SProp) (w0:World) (B m:Nat) (vi vn vw:Value) (wr:World):Prop:=
 ∃ (k:Nat) (EL:List Txt) (M:fd) (st:Option Nat) (l:List Nat),k≤bs.length∧vi= .int .i64 k∧vn= .int .i64 EL.length∧(st=none∧vw= .int .i64 (-1)∨∃ q:Nat,st=some q∧vw= .int .i64 q∧q<EL.length)∧
  EOk EL M∧l++bj EL M st (bs.drop k)=br bs∧St w0 wr (az B l false*(ge m EL.length M*F))
theorem B8 {w0 w:World} {F:SProp} (h:St w0 w F) (bs:List UInt8) {v:Value} (hv:Stb w0 F (fun w=>Reads w 1 v bs.length (bs.map bv))) (hl:bs.length≤1000000000):
  Calls Tryz.prog 40 #[v] w fun e w'=>∃ v',e= .returned v'∧St w0 w' (own 5 1 v' (aq false (br bs)).length ((aq false (br bs)).map bv)*F):=by
 obtain⟨av,cv,rfl⟩:=(hv w h).sub;have H:=ac h;clear h;have HV:=ac hv;clear hv;have hmm:= @run_makeMap Tryz.prog;go_enter Tryz.func40,Tryz.ntmps40;go_wp2_with fail;refine(kC H.out).mono ?_;rintro e w1 ⟨B,rfl,h1⟩;have H1:=ac h1;clear h1;go_wp2_with fail;refine(dE H1.out 256 9 (by omega) (by decide) (by decide) (by simp)).mono ?_;rintro e w2 ⟨rfl,h2⟩;have H2:=ac h2;clear h2;have h3:=B5 H2.out;have H3:=ac (h3.perm (af _ _ _));clear h3;go_wp2_with fail
 go_loopw [18,5,6] (fun vi vn vw wr=>B7 bs F w0 B w2.heap.size vi vn vw wr) (fun vi _ _ _=>bs.length-(intOf vi).toNat)
 case atStart=>exact⟨0,aV,gM,none,ap 256 9,by omega,rfl,by rw[eJ];rfl,.inl ⟨rfl,rfl⟩,EOk.start,rfl,by
  have:=H3.out;simp only[ba] at this;exact((uz (Nat.zero_le _) (this.perm (af _ _ _))).perm (af _ _ _))⟩
 case round=>
  clear H3 H2 H1 H;obtain⟨k,EL,M,st,l,hk,rfl,rfl,hwa,hE,hbits,hst⟩:=hrel;generalize w2.heap.size=m at*
  have hE1:=hE.l1;have hE2:=hE.l2;have hll:l.length≤24*bs.length+33:=by
   have h1:=mu bs;have h2:=congrArg List.length hbits;rw[ae] at h2;omega
  have HE:=ac hE;clear hE
  by_cases hkn:k<bs.length
  ·have hkn1:(k:Int)<bs.length:=by omega
   have hx:=ai hkn;have hdrop:bs.drop k=bs[k]::bs.drop (k+1):=cC hkn;generalize hc5:bs[k]=c at*
   clear hc5;rw[hdrop] at hbits;clear hdrop;obtain⟨g,off,rfl,hc⟩:=(HV.out wr hst.right.right).at_ hkn;have hc':(bs.map bv)[k]? =some (.int .u8 (c.toNat:Int)):=by simp [hx,bv]
   rw[hc'] at hc;clear hc' hx;have hc8:c.toNat<256:=bh c
   rcases hwa with ⟨rfl,rfl⟩ | ⟨q,rfl,rfl,hqE⟩
   ·rw[bj] at hbits;have HB:=ac hbits;clear hbits;have HS:=ac hst;clear hst;generalize hcn:c.toNat=cn at*
    generalize hNE:EL.length=NE at*
    have HNE:=ac hNE;clear hNE;clear hcn;go_wp2_with fail;refine⟨⟨k+1,EL,M,some cn,l,by omega,by go_num,by rw[HNE.out],.inr ⟨cn,rfl,rfl,by rw[HNE.out];omega⟩,HE.out,HB.out,by rw[HNE.out];exact HS.out⟩,by simp [intOf];omega⟩
   ·rw[bj] at hbits;have HB:=ac hbits;clear hbits;obtain⟨tq,htq⟩:∃ t,EL[q]? =some t:=⟨EL[q],ai hqE⟩;have HTQ:=ac htq;clear htq;have hst1:=(hst.alloc (.cells #[.int .i64 (q:Int),.int .i64 (c.toNat:Int)] 131)).perm (show _=ge m EL.length M*(az B l false*(blk wr.heap.size (.cells #[.int .i64 (q:Int),.int .i64 (c.toNat:Int)] 131)*F)) by ac_rfl);clear hst;obtain⟨D,hD,hown,_⟩:=og hst1;obtain⟨kl,hkl⟩:=BX (p:=q) (c:=c.toNat) (by omega) (by omega);obtain⟨hhas,hat0⟩:=hD.2 q c.toNat kl (by omega) hc8 hkl;have HD:=ac hD;clear hD;have HS1:=ac hst1;clear hst1;have HOWN:=ac hown;clear hown;have HKL:=ac hkl;clear hkl;have q0:¬ (q:Int)<0:=by omega
    have HZ:=ac (fun w=>(show(zeroValue 3).run Tryz.prog w= .ok (.int .i64 0) w by kernel_rfl));generalize hNE:EL.length=NE at*
    have HNE:=ac hNE;clear hNE;generalize hcn:c.toNat=cn at*
    have HCN:=ac hcn;clear hcn;go_wp2_with (at_lookup;apply ag);refine on (wpList_lookup_own_ok_int _ rfl _ _ 130 rfl 131 3 .i64 pk Tryz.underlying130 Tryz.underlying3 (HZ.out _) m _ D rfl HOWN.out _ kl rfl HKL.out ?_);intro c' hat hwf;rw[hhas];generalize hb9:wr.heap.size=b9 at*
    generalize hw9:wr.alloc (.cells #[.int .i64 (q:Int),.int .i64 (cn:Int)] 131)=w3 at*
    clear hb9 hw9;cases hM:M q cn with
    | some r=>
     have hcr:c'=r:=by
      have:=hat0 r hM;rw[hat] at this;simpa using this
     subst hcr;have hb:=HB.out;simp only[hM] at hb;have HBB:=ac hb;clear hb;obtain⟨_,u,_,hr⟩:=HE.out.pr q c r (by rw[HCN.out];exact hM);have hrl:=(dJ.1 hr).1;rw[HNE.out] at hrl;have HMM:=ac hM;clear hM hhas hat0 hat;simp only[ze];go_wp2_with fail;refine⟨⟨k+1,EL,M,some r,l,by omega,by go_num,by rw[HNE.out],.inr ⟨r,rfl,rfl,by rw[HNE.out];exact hrl⟩,HE.out,HBB.out,?_⟩,by simp [intOf];omega⟩;rw[HNE.out];exact(HS1.out.perm (show _=blk b9 _*(az B l false*(ge m NE M*F)) by ac_rfl)).right
    | none=>
     have hb:=HB.out;simp only[hM] at hb;have HBB:=ac hb;clear hb;have HMM:=ac hM;clear hM hhas hat0 hat;simp only[zf];have hqw:IntKind.u32.wrap (q:Int)=q:=by rw[IntKind.wrap_u32'];omega
     go_wp2_with fail;refine(nU NE (by omega) (by omega) (by omega) (by omega)).mono ?_;rintro e w4 ⟨rfl,rfl⟩;rw[show Go.Proofs.YtboflbdniogcdaaGreatDoor.widN NE=Mz.widN NE from rfl];have hW:=Mz.widN_bd NE;have HQW:=ac (kB (q:=q) (k:=NE) hqE (by omega));generalize hWN:Mz.widN NE=W at*
     have HWN:=ac hWN;clear hWN;go_wp2_with fail;refine(dE (HS1.out.perm (af _ _ _)) q W (by omega) (fun _=>fv HQW.out) (by omega) (by omega)).mono ?_;rintro e w5 ⟨rfl,h5⟩;have h5:=h5.perm (af _ _ _);rw[show bi false q W=ap q W from rfl] at h5;obtain⟨D5,hD5,hown5,_⟩:=og h5;have e0:=h5.right.right.cell 0 rfl;have e1:=h5.right.right.cell 1 rfl;have H5:=ac h5;clear h5;have HD5:=ac hD5;clear hD5;have HOWN5:=ac hown5;clear hown5;go_wp2_with (at_mapUpdate;apply ag);refine on (wpList_mapUpdate_own _ rfl _ _ _ 130 rfl 131 3 pk Tryz.underlying130 _ m NE D5 rfl HOWN5.out (by unfold maxLen;omega) _ _ kl rfl rfl HKL.out (.lit (.int .i64 (NE:Int))) [] (plainElem_int Tryz.underlying3 (qX (by omega))) ?_);intro w6 hown6 hgr6;have h6:=BZ H5.out (HD5.out.put (r:=NE) HKL.out) hown6 hgr6;have H6:=ac h6;clear h6 hown6 hgr6
     by_cases hfull:NE+1=4094
     ·have hf1:(NE:Int)+1=4094:=by omega
      have hb:=HBB.out;rw[if_pos hfull] at hb;have HB2:=ac hb;clear hb;go_wp2_with fail;refine(dE (H6.out.perm (af _ _ _)) 256 12 (by omega) (by decide) (by decide) (by simp;omega)).mono ?_;rintro e w7 ⟨rfl,h7⟩;obtain⟨w8,hcl,h8⟩:=B6 (h7.perm (af _ _ _));have H8:=ac (uz (Nat.zero_le 258) h8);clear h7 h8;go_wp2_with fail;refine⟨⟨k+1,aV,gM,some cn,l++ap q W++ap 256 12,by omega,by go_num,by rw[eJ];rfl,.inr ⟨cn,rfl,rfl,by rw[eJ];omega⟩,EOk.start,?_,?_⟩,by simp [intOf];omega⟩
      ·rw[← HB2.out];simp
      ·rw[eJ];exact(H8.out.perm (show _=blk b9 _*(az B (l++ap q W++ap 256 12) false*(ge m 258 gM*F)) by rw[show bi false 256 12=ap 256 12 from rfl];ac_rfl)).right
     ·have hf1:¬ (NE:Int)+1=4094:=by omega
      have hb:=HBB.out;rw[if_neg hfull] at hb;have HB2:=ac hb;clear hb;have hgd:EL.getD q []=tq:=by rw[List.getD_eq_getElem?_getD,HTQ.out];rfl
      have HGD:=ac hgd;clear hgd;go_wp2_with fail;refine⟨⟨k+1,EL++[tq++[c]],gZ M q cn NE,some cn,l++ap q W,by omega,by go_num,by rw[ae,HNE.out];simp,.inr ⟨cn,rfl,rfl,by rw[ae,HNE.out];omega⟩,?_,?_,?_⟩,by simp [intOf];omega⟩
      ·have:=HE.out.add HTQ.out c (by rw[HNE.out];omega);rw[HCN.out,HNE.out] at this;exact this
      ·rw[← HB2.out,HGD.out];simp
      ·rw[ae,HNE.out];exact(H6.out.perm (show _=blk b9 _*(az B (l++ap q W) false*(ge m (NE+1) (gZ M q cn NE)*F)) by ac_rfl)).right
  ·obtain rfl:k=bs.length:=by omega
   rw[iT] at hbits
   rcases hwa with ⟨rfl,rfl⟩ | ⟨q,rfl,rfl,hqE⟩
   ·rw[bj] at hbits;have HB:=ac hbits;clear hbits;have HS:=ac hst;clear hst;generalize hNE:EL.length=NE at*
    have HNE:=ac hNE;clear hNE;go_wp2_with fail;refine(nU NE (by omega) (by omega) (by omega) (by omega)).mono ?_;rintro e w4 ⟨rfl,rfl⟩;rw[show Go.Proofs.YtboflbdniogcdaaGreatDoor.widN NE=Mz.widN NE from rfl];have hW:=Mz.widN_bd NE;have HQW:=ac (kB (q:=257) (k:=NE) (by omega) (by omega));generalize hWN:Mz.widN NE=W at*
    have HWN:=ac hWN;clear hWN;go_wp2_with fail;refine(dE HS.out 257 W (by omega) (fun _=>fv HQW.out) (by omega) (by omega)).mono ?_;rintro e w5 ⟨rfl,h5⟩;rw[show bi false 257 W=ap 257 W from rfl,HB.out] at h5;have H5:=ac h5;clear h5;go_wp2_with fail;refine(hU H5.out).mono ?_;rintro e w6 ⟨v6,rfl,h6⟩;obtain⟨a6,c6,rfl⟩:=h6.reads.sub;have H6:=ac h6;clear h6;go_wp2_with fail;go_ret;refine⟨.slice a6 (((br bs).length+7)/8) c6,rfl,?_⟩;rw[dm];exact(H6.out.perm (show _=(az B (br bs) false*ge m NE M)*(own 5 1 (.slice a6 (((br bs).length+7)/8) c6) (((br bs).length+7)/8) ((aq false (br bs)).map bv)*F) by ac_rfl)).right
   ·rw[bj] at hbits;have HB:=ac hbits;clear hbits;have HS:=ac hst;clear hst;generalize hNE:EL.length=NE at*
    have HNE:=ac hNE;clear hNE;have hqw:IntKind.u32.wrap (q:Int)=q:=by rw[IntKind.wrap_u32'];omega
    have q0:(0:Int)≤q:=by omega
    go_wp2_with fail;refine(nU NE (by omega) (by omega) (by omega) (by omega)).mono ?_;rintro e w4 ⟨rfl,rfl⟩;rw[show Go.Proofs.YtboflbdniogcdaaGreatDoor.widN NE=Mz.widN NE from rfl];have hW:=Mz.widN_bd NE;have HQW:=ac (kB (q:=q) (k:=NE) hqE (by omega));generalize hWN:Mz.widN NE=W at*
    have HWN:=ac hWN;clear hWN;go_wp2_with fail;refine(dE HS.out q W (by omega) (fun _=>fv HQW.out) (by omega) (by omega)).mono ?_;rintro e w5 ⟨rfl,h5⟩;rw[show bi false q W=ap q W from rfl] at h5;have H5:=ac h5;clear h5;go_wp2_with fail;refine(nU (NE+1) (by omega) (by omega) (by omega) (by omega)).mono ?_;rintro e w4 ⟨rfl,rfl⟩;rw[show Go.Proofs.YtboflbdniogcdaaGreatDoor.widN (NE+1)=Mz.widN (NE+1) from rfl];have hW':=Mz.widN_bd (NE+1);have HQW':=ac (kB (q:=257) (k:=NE+1) (by omega) (by omega));generalize hWN':Mz.widN (NE+1)=W' at*
    have HWN':=ac hWN';clear hWN';go_wp2_with fail;refine(dE H5.out 257 W' (by omega) (fun _=>fv HQW'.out) (by omega) (by simp;omega)).mono ?_;rintro e w7 ⟨rfl,h7⟩;rw[show bi false 257 W'=ap 257 W' from rfl,List.append_assoc,HB.out] at h7;have H7:=ac h7;clear h7;go_wp2_with fail;refine(hU H7.out).mono ?_;rintro e w6 ⟨v6,rfl,h6⟩;obtain⟨a6,c6,rfl⟩:=h6.reads.sub;have H6:=ac h6;clear h6;go_wp2_with fail;go_ret;refine⟨.slice a6 (((br bs).length+7)/8) c6,rfl,?_⟩;rw[dm];exact(H6.out.perm (show _=(az B (br bs) false*ge m NE M)*(own 5 1 (.slice a6 (((br bs).length+7)/8) c6) (((br bs).length+7)/8) ((aq false (br bs)).map bv)*F) by ac_rfl)).right
end Go.Proofs.YtboflbdniogcdaaGreatDoor
