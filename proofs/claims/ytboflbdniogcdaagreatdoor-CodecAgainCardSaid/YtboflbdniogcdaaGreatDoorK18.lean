/-
  Parts of a proof.
-/
import Derived.Test.YtboflbdniogcdaaGreatDoorK00
import Derived.Test.YtboflbdniogcdaaGreatDoorK15
import Derived.Laws.Cover3
import Derived.Test.YtboflbdniogcdaaGreatDoorK03
import Derived.Deep.LoopGhost
import Derived.Deep.QuietTactic
import Derived.BigQuiet
set_option linter.unusedVariables false
set_option linter.unusedSimpArgs false
set_option maxRecDepth 100000
set_option maxHeartbeats 100000000
namespace Go.Proofs.YtboflbdniogcdaaGreatDoor
open Go.RowKit Go.Mz
theorem DB (l:List (List UInt8)):∀ u∈l.map bN,u.oneCell'=true:=by
 intro u hu;obtain⟨c,_,rfl⟩:=cu.1 hu;rfl
theorem wQ {w0 w:World} {F:SProp} (h:St w0 w F) (xs:List (List UInt8)) (hl:xs.length≤1000000) {v:Value} (hv:Stb w0 F (fun w=>Reads w 1 v xs.length (xs.map bN))):
  Calls Tryz.prog 176 #[v] w fun e w'=>∃ v',e= .returned v'∧St w0 w' (own 9 1 v' xs.length (xs.map bN)*F):=by
 have T:=wo;have H:=ac h;have hr:=hv w h;clear h;obtain⟨hxl,⟨rfl,hn⟩ | ⟨x,cap,rfl,h1,h2,h3⟩⟩:=hr
 ·have hx0:xs=[]:=bG hn;subst hx0;have hq:(binOp .eql 38 (.slice none 0 0) (.slice none 0 0)).run Tryz.prog w= .ok (.bool true) w:=by kernel_rfl
  go_enter Tryz.func176,Tryz.ntmps176;go_wp2_with fail;go_ret;exact⟨_,rfl,St.own_nil _ _ H.out⟩
 ·have HV:=ac hv;clear hv hxl h1 h2 h3;have hq:(binOp .eql 38 (.slice (some x) xs.length cap) (.slice none 0 0)).run Tryz.prog w= .ok (.bool false) w:=by
   have:=run_equal_slice_nil (P:=Tryz.prog) w 38 9 (some x) xs.length cap Tryz.underlying38;simp [binOp,this]
  go_enter Tryz.func176,Tryz.ntmps176;go_wp2_with (at_builtin;apply ap);refine on (aG T rfl _ _ rfl rfl (St.own_blk (e:=9) (size:=1) (n:=0) (cap:=0) (xs:=[]) (H.out.alloc (.cells #[] 9)) (Nat.le_refl _) (Nat.zero_le _) rfl rfl) rfl (HV.out _ (H.out.drop_alloc _)) (DB xs) ?_ ?_ ?_)
  ·unfold maxLen;omega
  ·omega
  intro v' w3 h4 _;simp only[bA,bH] at h4;obtain⟨a',cap',rfl⟩:=h4.reads.sub;have H4:=ac h4;clear h4;go_wp2_with fail;go_ret;exact⟨_,rfl,H4.out⟩
theorem eM:ElemT Tryz.prog 79 3 1 8 (iv 0):=
 ⟨Tryz.underlying79,info_parts (by kernel_rfl),rfl,by decide⟩
theorem fU (l:List Int):∀ u∈l.map iv,u.oneCell'=true:=by
 intro u hu;obtain⟨c,_,rfl⟩:=cu.1 hu;rfl
theorem DC {w0 w:World} {F:SProp} (h:St w0 w F) (xs:List Int) (hl:xs.length≤1000000) {v:Value} (hv:Stb w0 F (fun w=>Reads w 1 v xs.length (xs.map iv))):
  Calls Tryz.prog 175 #[v] w fun e w'=>∃ v',e= .returned v'∧St w0 w' (own 3 1 v' xs.length (xs.map iv)*F):=by
 have T:=eM;have H:=ac h;have hr:=hv w h;clear h;obtain⟨hxl,⟨rfl,hn⟩ | ⟨x,cap,rfl,h1,h2,h3⟩⟩:=hr
 ·have hx0:xs=[]:=bG hn;subst hx0;have hq:(binOp .eql 79 (.slice none 0 0) (.slice none 0 0)).run Tryz.prog w= .ok (.bool true) w:=by kernel_rfl
  go_enter Tryz.func175,Tryz.ntmps175;go_wp2_with fail;go_ret;exact⟨_,rfl,St.own_nil _ _ H.out⟩
 ·have HV:=ac hv;clear hv hxl h1 h2 h3;have hq:(binOp .eql 79 (.slice (some x) xs.length cap) (.slice none 0 0)).run Tryz.prog w= .ok (.bool false) w:=by
   have:=run_equal_slice_nil (P:=Tryz.prog) w 79 3 (some x) xs.length cap Tryz.underlying79;simp [binOp,this]
  go_enter Tryz.func175,Tryz.ntmps175;go_wp2_with (at_builtin;apply ap);refine on (aG T rfl _ _ rfl rfl (St.own_blk (e:=3) (size:=1) (n:=0) (cap:=0) (xs:=[]) (H.out.alloc (.cells #[] 3)) (Nat.le_refl _) (Nat.zero_le _) rfl rfl) rfl (HV.out _ (H.out.drop_alloc _)) (fU xs) ?_ ?_ ?_)
  ·unfold maxLen;omega
  ·omega
  intro v' w3 h4 _;simp only[bA,bH] at h4;obtain⟨a',cap',rfl⟩:=h4.reads.sub;have H4:=ac h4;clear h4;go_wp2_with fail;go_ret;exact⟨_,rfl,H4.out⟩
theorem DD:ElemT Tryz.prog 191 196 1 8 (iv 0):=
 ⟨Tryz.underlying191,info_parts (by kernel_rfl),rfl,by decide⟩
theorem DE {w0 w:World} {F:SProp} (h:St w0 w F) (xs:List Int) (hl:xs.length≤1000000) {v:Value} (hv:Stb w0 F (fun w=>Reads w 1 v xs.length (xs.map iv))):
  Calls Tryz.prog 178 #[v] w fun e w'=>∃ v',e= .returned v'∧St w0 w' (own 196 1 v' xs.length (xs.map iv)*F):=by
 have T:=DD;have H:=ac h;have hr:=hv w h;clear h;obtain⟨hxl,⟨rfl,hn⟩ | ⟨x,cap,rfl,h1,h2,h3⟩⟩:=hr
 ·have hx0:xs=[]:=bG hn;subst hx0;have hq:(binOp .eql 191 (.slice none 0 0) (.slice none 0 0)).run Tryz.prog w= .ok (.bool true) w:=by kernel_rfl
  go_enter Tryz.func178,Tryz.ntmps178;go_wp2_with fail;go_ret;exact⟨_,rfl,St.own_nil _ _ H.out⟩
 ·have HV:=ac hv;clear hv hxl h1 h2 h3;have hq:(binOp .eql 191 (.slice (some x) xs.length cap) (.slice none 0 0)).run Tryz.prog w= .ok (.bool false) w:=by
   have:=run_equal_slice_nil (P:=Tryz.prog) w 191 196 (some x) xs.length cap Tryz.underlying191;simp [binOp,this]
  go_enter Tryz.func178,Tryz.ntmps178;go_wp2_with (at_builtin;apply ap);refine on (aG T rfl _ _ rfl rfl (St.own_blk (e:=196) (size:=1) (n:=0) (cap:=0) (xs:=[]) (H.out.alloc (.cells #[] 196)) (Nat.le_refl _) (Nat.zero_le _) rfl rfl) rfl (HV.out _ (H.out.drop_alloc _)) (fU xs) ?_ ?_ ?_)
  ·unfold maxLen;omega
  ·omega
  intro v' w3 h4 _;simp only[bA,bH] at h4;obtain⟨a',cap',rfl⟩:=h4.reads.sub;have H4:=ac h4;clear h4;go_wp2_with fail;go_ret;exact⟨_,rfl,H4.out⟩
def kp (bt et:TypeId) (B:Nat) (N:List Nd) (ms:List Int) (ws:List (List UInt8)):SProp:=fx fun x:Value × Value × Value=>
 blk B (.cells #[x.1,x.2.1,x.2.2] bt)*(own 245 3 x.1 N.length (cY N)*(own et 1 x.2.1 ms.length (ms.map iv)*own 9 1 x.2.2 ws.length (ws.map bN)))
abbrev sp:=kp 254 196
abbrev nB:=kp 250 3
theorem sq {fn:FuncId} {bt et:TypeId} (hf:(fn=140∧bt=254∧et=196)∨(fn=138∧bt=250∧et=3)) {w0 w:World} {F:SProp} (h:St w0 w F) (ws:List (List UInt8)) (ms:List Int) (hlen:ms.length=ws.length) (hl:ws.length≤900) (hsz:∀ (i:Nat) (t:List UInt8),ws[i]? =some t→t.length≤1000) {vw vm:Value}
  (hvw:Stb w0 F (fun w=>Reads w 1 vw ws.length (ws.map bN))) (hvm:Stb w0 F (fun w=>Reads w 1 vm ms.length (ms.map iv))) {N:List Nd} {er:Nat} (hR:iy [bj] 0 ws=(N,er)):
  Calls Tryz.prog fn #[vw,vm] w fun e w'=>(er=0→∃ B,e= .returned (.tuple #[.pointer (some ⟨B,0,none⟩),.int .i64 0])∧St w0 w' (kp bt et B N ms ws*F)∧NOk N)∧
   (er≠0→e= .returned (.tuple #[.pointer none,.int .i64 er])∧St w0 w' F):=by
 rcases hf with ⟨rfl,hbt,het⟩ | ⟨rfl,hbt,het⟩
 all_goals
  have HBT:=ac hbt;have HET:=ac het;clear hbt het;obtain⟨aw,cw,rfl⟩:=(hvw w h).sub;obtain⟨am,cm,rfl⟩:=(hvm w h).sub;have HVW:=ac hvw;clear hvw;have HVM:=ac hvm;clear hvm;have HSZ:=ac hsz;clear hsz;have HR:=ac hR;clear hR;have hA:=h.alloc (.cells #[.int .i64 0,.int .i64 0,.int .i64 (-1)] 245);have hA1:St w0 _ (own 245 3 (.slice (some ⟨w.heap.size,0,none⟩) 1 1) 1 (cY [bj])*_):=hA.own_blk (Nat.le_refl _) (by unfold maxLen;omega) rfl rfl;have H1:=ac hA1;clear hA hA1 h;have hln:((ws.length:Int) != ms.length)=false:=by rw[hlen];simp
  have hml:ms.length≤900:=by omega
  have HLEN:=ac hlen;clear hlen
  first | (go_enter Tryz.func140,Tryz.ntmps140) | (go_enter Tryz.func138,Tryz.ntmps138)
  go_wp2_with fail;generalize hbn:w.heap.size=bn at*
  first
  | (go_at_call 178;refine(DE H1.out ms (by omega) (v:= .slice am ms.length cm) (fun w h=>HVM.out w h.right)).mono ?_)
  | (go_at_call 175;refine(DC H1.out ms (by omega) (v:= .slice am ms.length cm) (fun w h=>HVM.out w h.right)).mono ?_)
  rintro e w2 ⟨v2,rfl,h2⟩;have h2:=h2.perm (congrArg (· *_) (show _=own et 1 v2 ms.length (ms.map iv) by rw[HET.out]));obtain⟨a2,c2,rfl⟩:=h2.reads.sub;have H2:=ac h2;clear h2;go_wp2_with fail;refine(wQ H2.out ws (by omega) (fun w h=>HVW.out w h.right.right)).mono ?_;rintro e w3 ⟨v3,rfl,h3⟩;obtain⟨a3,c3,rfl⟩:=h3.reads.sub;have h4:=h3.alloc (.cells #[.slice (some ⟨bn,0,none⟩) 1 1,.slice a2 ms.length c2,.slice a3 ws.length c3] bt);rw[HBT.out] at h4;have H4:=ac h4;clear h4 h3;go_wp2_with fail;generalize hB:w3.heap.size=B at*
  have h5:=H4.out.perm (show _=blk B (.cells #[.slice (some ⟨bn,0,none⟩) 1 1,.slice a2 ms.length c2,.slice a3 ws.length c3] bt)*(own 245 3 (.slice (some ⟨bn,0,none⟩) 1 1) 1 (cY [bj])*(own et 1 (.slice a2 ms.length c2) ms.length (ms.map iv)*(own 9 1 (.slice a3 ws.length c3) ws.length (ws.map bN)*F))) by rw[HBT.out];ac_rfl);have H5:=ac h5;clear h5;clear H4 H2 H1 hbn hB
  go_loopw [25] (fun vi wr=>∃ (k:Nat) (N1:List Nd) (vn1:Value),k≤ws.length∧vi= .int .i64 k∧NOk N1∧N1.length≤1+1000*k∧iy N1 k (ws.drop k)=(N,er)∧
   St w0 wr (blk B (.cells #[vn1,.slice a2 ms.length c2,.slice a3 ws.length c3] bt)*(own 245 3 vn1 N1.length (cY N1)*(own et 1 (.slice a2 ms.length c2) ms.length (ms.map iv)*(own 9 1 (.slice a3 ws.length c3) ws.length (ws.map bN)*F))))) (fun vi _=>ws.length-(intOf vi).toNat)
  case atStart=>exact⟨0,[bj],_,by omega,rfl,NOk.one,by simp,HR.out,H5.out⟩
  case round=>
   clear H5 HR;obtain⟨k,N1,vn1,hk,rfl,hN1,hlN,hlay,hst⟩:=hrel
   by_cases hkn:k<ws.length
   ·obtain⟨g,off,rfl,hc⟩:=(HVW.out wr hst.right.right.right.right).at_ hkn;have hx:=au hkn;have hdrop:ws.drop k=ws[k]::ws.drop (k+1):=dX hkn;have hs1:=HSZ.out k _ hx;generalize ws[k]=t at*
    have hc':(ws.map bN)[k]? =some (.string ⟨t.toArray⟩):=by simp [hx,bN]
    rw[hc'] at hc;rw[hdrop,iy] at hlay;clear hc' hx hdrop;have HLAY:=ac hlay;clear hlay;have C:=ac (fun fn hf=>wH (fn:=fn) (bt:=bt) hf hst hN1 (by omega) t (by omega) k (by omega));have HST:=ac hst;clear hst;generalize ByteArray.mk t.toArray=tb at*
    have hk1:(k:Int)<ws.length:=by omega
    go_wp2_with fail;refine(C.out _ (by rw[HBT.out];simp)).mono ?_;rintro e w5 ⟨vn',rfl,h5,hN',hl'⟩;generalize lay N1 t k=LL at*
    obtain⟨N',er'⟩:=LL;simp only at h5 hN' hl' HLAY
    by_cases her:er'=0
    ·subst her;have hlay:=HLAY.out;rw[if_pos rfl] at hlay;have H5:=ac h5;clear h5;have HL:=ac hlay;clear hlay;go_wp2_with fail;exact⟨⟨k+1,N',vn',by omega,by go_num,hN',by omega,HL.out,H5.out⟩,by simp [intOf];omega⟩
    ·have hlay:=HLAY.out;rw[if_neg her] at hlay;have hlay2:N=N'∧er=er':=by
      cases hlay;exact⟨rfl,rfl⟩
     have HLL:=ac hlay2;clear hlay hlay2 HLAY;have H5:=ac h5;clear h5;have he1:¬ (er':Int)=0:=by omega
     go_wp2_with fail;go_ret2;refine⟨fun e0=>absurd (HLL.out.2 ▸ e0) her,fun _=>⟨by rw[HLL.out.2];rfl,H5.out.right.right.right.right⟩⟩
   ·obtain rfl:k=ws.length:=by omega
    rw[kL,iy] at hlay;have hlay2:N=N1∧er=0:=by
     cases hlay;exact⟨rfl,rfl⟩
    obtain⟨rfl,rfl⟩:=hlay2;have HST:=ac hst;clear hst hlay;go_wp2_with fail;go_ret2;have hfin:St w0 wr (kp bt et B N ms ws*F):=St.mk_ex_l (vn1,.slice a2 ms.length c2,.slice a3 ws.length c3) (HST.out.perm (by ac_rfl));refine⟨B,?_,hfin⟩;rfl
def sr (ms:List Int):Nat ⊕ Nat→Value
 | .inl m=> .tuple #[iv (ms.getD m 0),.int .i64 0]
 | .inr er=> .tuple #[iv 0,.int .i64 er]
theorem ss {fn:FuncId} {bt et:TypeId} (hf:fn=194∨fn=189) {w0 w:World} {F:SProp} {B Rb:Nat} {N:List Nd} {ms:List Int} {ws:List (List UInt8)} {bs:List UInt8} {p:Nat} {low:Bool} (h:St w0 w (kp bt et B N ms ws*(aq Rb bs p low*F))) (hN:NOk N) (hM:ny N ms.length) (hp:p≤8*bs.length)
  {p':Nat} {res:Nat ⊕ Nat} (hR:si N bs low p=(p',res)):
  Calls Tryz.prog fn #[.pointer (some ⟨B,0,none⟩),.pointer (some ⟨Rb,0,none⟩)] w fun e w'=>
   e= .returned (sr ms res)∧St w0 w' (kp bt et B N ms ws*(aq Rb bs p' low*F)):=by
 rcases hf with rfl | rfl
 all_goals
  obtain⟨⟨vn,vm,vw⟩,h⟩:=h.ex_l;simp only at h;have hback:∀ w' p',St w0 w' (aq Rb bs p' low*(blk B (.cells #[vn,vm,vw] bt)*(own 245 3 vn N.length (cY N)*(own et 1 vm ms.length (ms.map iv)*(own 9 1 vw ws.length (ws.map bN)*F)))))→St w0 w' (kp bt et B N ms ws*(aq Rb bs p' low*F)):=
   fun w' p' h=>St.mk_ex_l (vn,vm,vw) (h.perm (by ac_rfl))
  have HBACK:=ac hback;clear hback;have h1:St w0 w (aq Rb bs p low*(blk B (.cells #[vn,vm,vw] bt)*(own 245 3 vn N.length (cY N)*(own et 1 vm ms.length (ms.map iv)*(own 9 1 vw ws.length (ws.map bN)*F))))):=h.perm (by ac_rfl);have H1:=ac h1;clear h1 h;have HM:=ac hM;clear hM;have HR:=ac hR;clear hR
  first | (go_enter Tryz.func194,Tryz.ntmps194) | (go_enter Tryz.func189,Tryz.ntmps189)
  go_wp2_with fail
  go_loopg [7] (8*bs.length+1-p) (fun g va wr=>∃ (a q:Nat),va= .int .i64 a∧a<N.length∧q≤8*bs.length∧g=8*bs.length+1-q∧lf N bs low g q a=(p',res)∧
   St w0 wr (aq Rb bs q low*(blk B (.cells #[vn,vm,vw] bt)*(own 245 3 vn N.length (cY N)*(own et 1 vm ms.length (ms.map iv)*(own 9 1 vw ws.length (ws.map bN)*F))))))
  case atStart=>exact⟨0,p,rfl,hN.1,hp,rfl,HR.out,H1.out⟩
  case round=>
   clear H1 HR;obtain⟨a,q,rfl,ha,hq,hg,hread,hst⟩:=hrel;obtain⟨g,rfl⟩:∃ g,gk=g+1:=⟨gk-1,by omega⟩;rw[lf] at hread;have HST:=ac hst;clear hst
   by_cases hcut:8*bs.length<q+1
   ·rw[if_pos hcut] at hread;have HRR:=ac (show q=p'∧res= .inr 2 by cases hread;exact⟨rfl,rfl⟩);clear hread;go_wp2_with fail;refine(jn HST.out 1 rfl (by omega) hcut).mono ?_;rintro e w4 ⟨rfl,h4⟩;have H4:=ac (HBACK.out _ _ h4);clear h4;go_wp2_with fail;go_ret2;obtain⟨e1,e2⟩:=HRR.out;rw[e2,← e1];exact⟨rfl,H4.out⟩
   ·rw[if_neg hcut] at hread;have HREAD:=ac hread;clear hread;go_wp2_with fail;refine(iR HST.out 1 rfl (by omega) (by omega)).mono ?_;rintro e w4 ⟨rfl,h4⟩;have hc1:bL bs low q 1≤1:=by have:=kQ bs low q 1;omega
    have hread:=HREAD.out;generalize bL bs low q 1=c at*
    obtain⟨d,hd⟩:∃ d,N[a]? =some d:=⟨N[a],au ha⟩;have hgd:N.getD a bj=d:=by rw[List.getD_eq_getElem?_getD,hd];rfl
    rw[hgd] at hread;have hb:=hN.nx hd c;obtain⟨an,cn,rfl⟩:=h4.right.right.reads.sub;obtain⟨gn,rfl⟩:=ce h4.right.right (by omega);have b0:=h4.right.cell 0 rfl;have b1:=h4.right.cell 1 rfl;have xc:=h4.right.right.own_cellS (nw hd hc1);have hnl:(a:Int)<N.length:=by omega
    clear HREAD;generalize hbb:d.nx c=b at*
    obtain⟨d2,hd2⟩:∃ d,N[b]? =some d:=⟨N[b],au hb⟩;have hgd2:N.getD b bj=d2:=by rw[List.getD_eq_getElem?_getD,hd2];rfl
    rw[hgd2] at hread;have mc:=h4.right.right.own_cellS (wl hd2);have hmd:=HM.out d2 (aI hd2);have hc2:(c:Int)<2:=by omega
    have hbl:(b:Int)<N.length:=by omega
    by_cases hb0:b=0
    ·simp only[if_pos hb0] at hread;have HRR:=ac (show q+1=p'∧res= .inr 6 by cases hread;exact⟨rfl,rfl⟩);clear hread hd hgd hd2 hgd2 hmd mc hbb;have hbi:(b:Int)=0:=by omega
     have H4:=ac (HBACK.out _ _ h4);clear h4;go_wp2_with fail;go_ret2;obtain⟨e1,e2⟩:=HRR.out;rw[e2,← e1];exact⟨rfl,H4.out⟩
    ·simp only[if_neg hb0] at hread;have hbi:¬ (b:Int)=0:=by omega
     by_cases hmean:0≤d2.mean
     ·simp only[if_pos hmean] at hread;obtain⟨m,hm⟩:∃ m:Nat,d2.mean=m:=⟨d2.mean.toNat,by omega⟩;rw[hm] at hread hmd mc;have hmm:m<ms.length:=by omega
      have HRR:=ac (show q+1=p'∧res= .inl m by
       rw[eT] at hread;cases hread;exact⟨rfl,rfl⟩)
      clear hread hd hgd hd2 hgd2 hbb;obtain⟨am,cm,rfl⟩:=(h4.right.right.right).reads.sub;obtain⟨g6,o6,rfl,e6⟩:=(h4.right.right.right).reads.at_ hmm;obtain⟨t,ht⟩:∃ t,ms[m]? =some t:=⟨ms[m],au hmm⟩;have e6':(ms.map iv)[m]? =some (.int .i64 t):=by simp [ht,iv]
      rw[e6'] at e6;clear e6';have HGT:=ac (show iv (ms.getD m 0)= .int .i64 t by rw[List.getD_eq_getElem?_getD,ht];rfl);clear ht;have hm0:(0:Int)≤m:=by omega
      have hm1:(m:Int)<ms.length:=by omega
      have H4:=ac (HBACK.out _ _ h4);clear h4;go_upto_region 12 with (fail)
      go_quiet (fail);have h8:=H4.out.drewN nq;generalize w4.drewN nq=w8 at*
      have H8:=ac h8;clear h8;go_wp2_with fail;go_ret2;obtain⟨e1,e2⟩:=HRR.out;rw[e2,← e1,sr,HGT.out];exact⟨rfl,H8.out⟩
     ·simp only[if_neg hmean] at hread;have HRR:=ac hread;clear hread hd hgd hd2 hgd2 hmd hbb;have H4:=ac h4;clear h4;have hmean':d2.mean<0:=by omega
      go_wp2_with fail
      go_roundg g
      case measure=>omega
      case rel=>exact⟨b,q+1,rfl,hb,by omega,by omega,HRR.out,H4.out⟩
def fd (n:Nat):List Int:=(List.range n).map fun(i:Nat)=>(i:Int)
theorem nC (n:Nat):(fd n).length=n:=by simp [fd]
theorem DF (n:Nat):fd (n+1)=fd n++[(n:Int)]:=by simp [fd,gT]
theorem DG {n i:Nat} (h:i<n):(fd n).getD i 0=(i:Int):=by
 rw[fd,List.getD_eq_getElem?_getD,aC,dW h];rfl
def bf (B:Nat) (W:List (List Nat)):SProp:=fx fun N:List Nd=>il (Trie N W)*nB B N (fd W.length) (W.map tx)
theorem DH {w0 w:World} {B:Nat} {W:List (List Nat)} {F:SProp} (h:St w0 w (bf B W*F)):∃ N,Trie N W∧St w0 w (nB B N (fd W.length) (W.map tx)*F):=by
 obtain⟨N,h⟩:=h.ex_l;have h:=h.perm (aW _ _ _);obtain⟨h1,h2⟩:=h.pure_l;exact⟨N,h1,h2⟩
def wR (r:Nat × (Nat ⊕ Nat)) (p:Nat) (z:Int) (x p':Nat):Prop:=
 p'=p+r.1∧match r.2 with
 | .inl i=>x=0∧z=i
 | .inr e=>x=e
theorem wS {w0 w:World} {F:SProp} {B Rb:Nat} {W:List (List Nat)} {bs:List UInt8} {p:Nat} {low:Bool} (h:St w0 w (bf B W*(aq Rb bs p low*F))) (hp:p≤8*bs.length):
  Calls Tryz.prog 189 #[.pointer (some ⟨B,0,none⟩),.pointer (some ⟨Rb,0,none⟩)] w fun e w'=>∃ (z:Int) (x p':Nat),
   e= .returned (.tuple #[.int .i64 z,.int .i64 x])∧wR (aX W [] ((ag low bs).drop p)) p z x p'∧St w0 w' (bf B W*(aq Rb bs p' low*F)):=by
 obtain⟨N,hT,h⟩:=DH h;have hM:ny N (fd W.length).length:=by rw[nC];exact hT.means
 refine(ss (.inr rfl) h hT.1 hM hp (sj hT bs low p hp)).mono ?_;rintro e w' ⟨rfl,h2⟩;have h3:St w0 w' (bf B W*(aq Rb bs (p+(aX W [] ((ag low bs).drop p)).1) low*F)):=St.mk_ex_l N ((St.mk_pure_l hT h2).perm (aW _ _ _).symm);have hlen:=iT W ((ag low bs).drop p) [];generalize aX W [] ((ag low bs).drop p)=r at*
 obtain⟨k,r⟩:=r;cases r with
 | inl i=>
  have hi:=(hlen.2.2.2.1 i rfl).2;refine⟨i,0,p+k,?_,⟨rfl,rfl,rfl⟩,h3⟩;rw[sr,DG hi];rfl
 | inr er=>exact⟨0,er,p+k,rfl,⟨rfl,rfl⟩,h3⟩
theorem DI {w0 w:World} {F:SProp} {W:List (List Nat)} {n:Nat} {vm vw:Value} (h:St w0 w (own 3 1 vm n ((fd n).map iv)*(own 9 1 vw n (W.map cA)*F))) (hn:n=W.length)
  (hb:∀ w∈W,Bit w) (pf:PF W) (hl:W.length≤900) (h30:∀ w∈W,w.length≤1000):
  Calls Tryz.prog 138 #[vw,vm] w fun e w'=>∃ B,e= .returned (.tuple #[.pointer (some ⟨B,0,none⟩),.int .i64 0])∧St w0 w' (bf B W*F):=by
 subst hn;obtain⟨N,hN,hT⟩:=pG hb pf;have e1:W.map cA=(W.map tx).map bN:=by rw[eU];rfl
 have hwl:(W.map tx).length=W.length:=by simp
 rw[e1] at h;have C:=sq (.inr ⟨rfl,rfl,rfl⟩) (vw:=vw) (vm:=vm) h (W.map tx) (fd W.length) (by rw[nC,hwl]) (by rw[hwl];exact hl) (fun i t ht=>by
  rw[aC] at ht;cases e:W[i]? with
  | none=>rw[e] at ht;cases ht
  | some v=>
   rw[e] at ht;cases ht;rw[m6];exact h30 v (aI e)) (fun w h=>by rw[hwl];exact h.right.reads) (fun w h=>by rw[nC];exact h.reads) hN
 refine C.mono ?_;rintro e w'' ⟨hok,_⟩;obtain⟨B,he,h5,_⟩:=hok rfl;have h6:=((h5.perm (ak _ _ _)).right.perm (ak _ _ _)).right;exact⟨B,he,St.mk_ex_l N ((St.mk_pure_l hT h6).perm (aW _ _ _).symm)⟩
end Go.Proofs.YtboflbdniogcdaaGreatDoor
