/-
  Parts of a proof.
-/
import Derived.Lib.AppendZeros
import Derived.Test.YtboflbdniogcdaaGreatDoorK20
import Derived.Test.YtboflbdniogcdaaGreatDoorK05
set_option linter.unusedVariables false
set_option linter.unusedSimpArgs false
set_option maxRecDepth 100000
set_option maxHeartbeats 100000000
namespace Go.Proofs.YtboflbdniogcdaaGreatDoor
open Go.RowKit Go.Mz
def mH (v:Value) (n:Nat):SProp:=iW (∃ a c,v= .slice a n c)
theorem Cr {w0 w:World} {F:SProp} (h:St w0 w F) (a:Option Addr) (n c:Nat):St w0 w (mH (.slice a n c) n*F):=St.mk_pure_l ⟨a,c,rfl⟩ h
theorem Cs {w0 w:World} {F:SProp} (h:St w0 w F) (n:Nat) (h0:0<n) (hn:n≤1000000) (x:Addr) (cap:Nat):
  Calls Tryz.prog 225 #[.slice (some x) n cap] w fun e w'=>∃ a c,e= .returned (.slice a n c)∧St w0 w' F:=by
 have H:=ac h;clear h;obtain⟨i,hi,hz,hs,hb⟩:∃ i,Tryz.prog.info? 281 =some i∧i.zero=some (.agg #[])∧i.size=0∧i.bytes=0:=info_parts (by kernel_rfl);have hq:(binOp .eql 301 (.slice (some x) n cap) (.slice none 0 0)).run Tryz.prog w= .ok (.bool false) w:=by
  have:=run_equal_slice_nil (P:=Tryz.prog) w 301 281 (some x) n cap Tryz.underlying301;simp [binOp,this]
 have hr:∀ (W:World) (b:Nat) ty,(Builtin.append_ #[301, 301] ty #[.slice (some ⟨b,0,none⟩) 0 0,.slice (some x) n cap]).run Tryz.prog W=
   .ok (.slice (some ⟨W.heap.size,0,none⟩) (0+n) (grownCap W (0+n) 0 281)) (W.drew.alloc (.cells (([]:List Value).toArray++([]:List Value).toArray++Builtin.zeroCells (Value.agg #[]).cells (grownCap W (0+n) 0 281 -(0+n))) 281)):=fun W b ty=>
  run_append_grow W 301 ty 281 i (.agg #[]) Tryz.underlying301 hi hz ⟨b,0,none⟩ 0 0 [] (by simp) (fun j v h=>by simp at h) x n cap [] (by rw[hs];simp) (fun j v h=>by simp at h) (by omega) (by omega) (by rw[hb];omega)
 go_enter Tryz.func225,Tryz.ntmps225;go_wp2_with (at_builtin;apply ag);refine on (Lib.wpList_append_run _ rfl _ _ _ _ rfl _ _ rfl rfl _ _ (hr _ _ _) ?_);rw[bQ];go_wp2_with fail;go_ret;exact⟨_,_,rfl,(H.out.drop_alloc _).drew.drop_alloc _⟩
def ou (B:Nat) (N:List Nd) (ms:Nat) (ws:List (List UInt8)):SProp:=gt fun x:Value × Value × Value=>
 blk B (.cells #[x.1,x.2.1,x.2.2] 315)*(own 245 3 x.1 N.length (dz N)*(mH x.2.1 ms*own 9 1 x.2.2 ws.length (ws.map aQ)))
theorem Ct {w0 w:World} {F:SProp} (h:St w0 w F) (ws:List (List UInt8)) (ms:Nat) (hlen:ms=ws.length) (hl:ws.length≤900) (hsz:∀ (i:Nat) (t:List UInt8),ws[i]? =some t→t.length≤1000) {vw vm:Value}
  (hvw:Stb w0 F (fun w=>Reads w 1 vw ws.length (ws.map aQ))) (hvm:∃ x c,vm= .slice (some x) ms c) (hm0:0<ms) {N:List Nd} {er:Nat} (hR:ij [bw] 0 ws=(N,er)):
  Calls Tryz.prog 214 #[vw,vm] w fun e w'=>(er=0→∃ B,e= .returned (.tuple #[.pointer (some ⟨B,0,none⟩),.int .i64 0])∧St w0 w' (ou B N ms ws*F)∧NOk N)∧
   (er≠0→e= .returned (.tuple #[.pointer none,.int .i64 er])∧St w0 w' F):=by
 obtain⟨aw,cw,rfl⟩:=(hvw w h).sub;obtain⟨am,cm,rfl⟩:=hvm;have HVW:=ac hvw;clear hvw;have HSZ:=ac hsz;clear hsz;have HR:=ac hR;clear hR;have hA:=h.alloc (.cells #[.int .i64 0,.int .i64 0,.int .i64 (-1)] 245);have hA1:St w0 _ (own 245 3 (.slice (some ⟨w.heap.size,0,none⟩) 1 1) 1 (dz [bw])*_):=hA.own_blk (Nat.le_refl _) (by unfold maxLen;omega) rfl rfl;have H1:=ac hA1;clear hA hA1 h;have hln:((ws.length:Int) != ms)=false:=by rw[hlen];simp
 have hml:ms≤900:=by omega
 have HLEN:=ac hlen;clear hlen;go_enter Tryz.func214,Tryz.ntmps214;go_wp2_with fail;generalize hbn:w.heap.size=bn at*
 have C1:=Cs H1.out ms hm0 (by omega) am cm;have HC1:=ac C1;clear C1;refine HC1.out.mono ?_;rintro e w2 ⟨a2,c2,rfl,h2⟩;have h2:=Cr h2 a2 ms c2;have H2:=ac h2;clear h2 HC1;go_wp2_with fail;refine(uK H2.out ws (by omega) (fun w h=>HVW.out w h.right.right)).mono ?_;rintro e w3 ⟨v3,rfl,h3⟩;obtain⟨a3,c3,rfl⟩:=h3.reads.sub;have h4:=h3.alloc (.cells #[.slice (some ⟨bn,0,none⟩) 1 1,.slice a2 ms c2,.slice a3 ws.length c3] 315);have H4:=ac h4;clear h4 h3;go_wp2_with fail;generalize hB:w3.heap.size=B at*
 have h5:=H4.out.perm (show _=blk B (.cells #[.slice (some ⟨bn,0,none⟩) 1 1,.slice a2 ms c2,.slice a3 ws.length c3] 315)*(own 245 3 (.slice (some ⟨bn,0,none⟩) 1 1) 1 (dz [bw])*(mH (.slice a2 ms c2) ms*(own 9 1 (.slice a3 ws.length c3) ws.length (ws.map aQ)*F))) by ac_rfl);have H5:=ac h5;clear h5;clear H4 H2 H1 hbn hB
 go_loopw [25] (fun vi wr=>∃ (k:Nat) (N1:List Nd) (vn1:Value),k≤ws.length∧vi= .int .i64 k∧NOk N1∧N1.length≤1+1000*k∧ij N1 k (ws.drop k)=(N,er)∧
  St w0 wr (blk B (.cells #[vn1,.slice a2 ms c2,.slice a3 ws.length c3] 315)*(own 245 3 vn1 N1.length (dz N1)*(mH (.slice a2 ms c2) ms*(own 9 1 (.slice a3 ws.length c3) ws.length (ws.map aQ)*F))))) (fun vi _=>ws.length-(intOf vi).toNat)
 case atStart=>exact⟨0,[bw],_,by omega,rfl,NOk.one,by simp,HR.out,H5.out⟩
 case round=>
  clear H5 HR;obtain⟨k,N1,vn1,hk,rfl,hN1,hlN,hlay,hst⟩:=hrel
  by_cases hkn:k<ws.length
  ·obtain⟨g,off,rfl,hc⟩:=(HVW.out wr hst.right.right.right.right).at_ hkn;have hx:=ai hkn;have hdrop:ws.drop k=ws[k]::ws.drop (k+1):=cC hkn;have hs1:=HSZ.out k _ hx;generalize ws[k]=t at*
   have hc':(ws.map aQ)[k]? =some (.string ⟨t.toArray⟩):=by simp [hx,aQ]
   rw[hc'] at hc;rw[hdrop,ij] at hlay;clear hc' hx hdrop;have HLAY:=ac hlay;clear hlay;have C:=ac (uJ (.inr (.inl ⟨rfl,rfl⟩)) hst hN1 (by omega) t (by omega) k (by omega));have HST:=ac hst;clear hst;generalize ByteArray.mk t.toArray=tb at*
   have hk1:(k:Int)<ws.length:=by omega
   go_wp2_with fail;refine C.out.mono ?_;rintro e w5 ⟨vn',rfl,h5,hN',hl'⟩;generalize lay N1 t k=LL at*
   obtain⟨N',er'⟩:=LL;simp only at h5 hN' hl' HLAY
   by_cases her:er'=0
   ·subst her;have hlay:=HLAY.out;rw[if_pos rfl] at hlay;have H5:=ac h5;clear h5;have HL:=ac hlay;clear hlay;go_wp2_with fail;exact⟨⟨k+1,N',vn',by omega,by go_num,hN',by omega,HL.out,H5.out⟩,by simp [intOf];omega⟩
   ·have hlay:=HLAY.out;rw[if_neg her] at hlay;have hlay2:N=N'∧er=er':=by
     cases hlay;exact⟨rfl,rfl⟩
    have HLL:=ac hlay2;clear hlay hlay2 HLAY;have H5:=ac h5;clear h5;have he1:¬ (er':Int)=0:=by omega
    go_wp2_with fail;go_ret2;refine⟨fun e0=>absurd (HLL.out.2 ▸ e0) her,fun _=>⟨by rw[HLL.out.2];rfl,H5.out.right.right.right.right⟩⟩
  ·obtain rfl:k=ws.length:=by omega
   rw[iT,ij] at hlay;have hlay2:N=N1∧er=0:=by
    cases hlay;exact⟨rfl,rfl⟩
   obtain⟨rfl,rfl⟩:=hlay2;have HST:=ac hst;clear hst hlay;go_wp2_with fail;go_ret2;have hfin:St w0 wr (ou B N ms ws*F):=St.mk_ex_l (vn1,.slice a2 ms c2,.slice a3 ws.length c3) (HST.out.perm (by ac_rfl));refine⟨B,?_,hfin⟩;rfl
def fB (ws:List (List UInt8)) (i:Int):List UInt8:=if 0≤i∧i<ws.length then ws.getD i.toNat [] else []
def iJ (ws:List (List UInt8)) (i:Int):Value:=if 0≤i∧i<ws.length then .tuple #[aQ (ws.getD i.toNat []),.int .i64 0] else .tuple #[.string ⟨#[]⟩,.int .i64 12]
theorem uN {w0 w:World} {F:SProp} {bt et:TypeId} {B:Nat} {N:List Nd} {ms:List Int} {ws:List (List UInt8)} (h:St w0 w (mG bt et B N ms ws*F)):
  ∃ aw cw,w.cell? ⟨B,2,none⟩=some (.slice aw ws.length cw)∧Reads w 1 (.slice aw ws.length cw) ws.length (ws.map aQ):=by
 obtain⟨⟨vn,vm,vw⟩,h⟩:=h.ex_l;simp only at h;have h':=h.perm (show _=own 9 1 vw ws.length (ws.map aQ)*(blk B (.cells #[vn,vm,vw] bt)*(own 245 3 vn N.length (dz N)*(own et 1 vm ms.length (ms.map iv)*F))) by ac_rfl);obtain⟨aw,cw,rfl⟩:=h'.reads.sub;exact⟨aw,cw,h'.right.cell 2 rfl,h'.reads⟩
theorem Cu {w0 w:World} {F:SProp} {B:Nat} {N:List Nd} {ms:Nat} {ws:List (List UInt8)} (h:St w0 w (ou B N ms ws*F)):
  ∃ aw cw,w.cell? ⟨B,2,none⟩=some (.slice aw ws.length cw)∧Reads w 1 (.slice aw ws.length cw) ws.length (ws.map aQ):=by
 obtain⟨⟨vn,vm,vw⟩,h⟩:=h.ex_l;simp only at h;have h':=h.perm (show _=own 9 1 vw ws.length (ws.map aQ)*(blk B (.cells #[vn,vm,vw] 315)*(own 245 3 vn N.length (dz N)*(mH vm ms*F))) by ac_rfl);obtain⟨aw,cw,rfl⟩:=h'.reads.sub;exact⟨aw,cw,h'.right.cell 2 rfl,h'.reads⟩
theorem Cv {fn:FuncId} (hf:fn=217∨fn=218∨fn= 227) {w:World} {B:Nat} {ws:List (List UInt8)} (hw:∃ aw cw,w.cell? ⟨B,2,none⟩=some (.slice aw ws.length cw)∧Reads w 1 (.slice aw ws.length cw) ws.length (ws.map aQ)):
  Calls Tryz.prog fn #[.pointer (some ⟨B,0,none⟩)] w fun e w'=>e= .returned (.int .i64 ws.length)∧w'=w:=by
 obtain⟨aw,cw,c2,hr⟩:=hw;clear hr
 rcases hf with rfl | rfl | rfl
 all_goals
  first | (go_enter Tryz.func217,Tryz.ntmps217) | (go_enter Tryz.func218,Tryz.ntmps218) | (go_enter Tryz.func227,Tryz.ntmps227)
  go_wp2_with fail;go_ret;exact⟨rfl,rfl⟩
theorem Cw {fn:FuncId} (hf:fn=205∨fn=206∨fn= 215) {w:World} {B:Nat} {ws:List (List UInt8)} (hw:∃ aw cw,w.cell? ⟨B,2,none⟩=some (.slice aw ws.length cw)∧Reads w 1 (.slice aw ws.length cw) ws.length (ws.map aQ)) (i:Int):
  Calls Tryz.prog fn #[.pointer (some ⟨B,0,none⟩),.int .i64 i] w fun e w'=>e= .returned (iJ ws i)∧w'=w:=by
 have hw0:=hw;obtain⟨aw,cw,c2,hr⟩:=hw;have HL:=ac (fun fn hf=>Cv (fn:=fn) hf hw0);clear hw0
 rcases hf with rfl | rfl | rfl
 all_goals
  by_cases hi:i<0
  ·have HR:=ac (show iJ ws i= .tuple #[.string ⟨#[]⟩,.int .i64 12] by rw[iJ,if_neg (by omega)]);clear hr
   first | (go_enter Tryz.func205,Tryz.ntmps205) | (go_enter Tryz.func206,Tryz.ntmps206) | (go_enter Tryz.func215,Tryz.ntmps215)
   go_wp2_with fail;go_ret2;exact⟨by rw[HR.out];rfl,rfl⟩
  ·obtain⟨k,rfl⟩:∃ k:Nat,i=k:=⟨i.toNat,by omega⟩
   by_cases hk:k<ws.length
   ·obtain⟨g,o,rfl,e⟩:=hr.at_ hk;have hx:=ai hk;have HR:=ac (show iJ ws k= .tuple #[aQ ws[k],.int .i64 0] by rw[iJ,if_pos (by omega),gq,List.getD_eq_getElem?_getD,hx];rfl);rw[au,hx] at e;generalize ws[k]=t at*
    simp only[cB,aQ] at e;have hk2:(k:Int)<ws.length:=by omega
    clear hr hx
    first | (go_enter Tryz.func205,Tryz.ntmps205) | (go_enter Tryz.func206,Tryz.ntmps206) | (go_enter Tryz.func215,Tryz.ntmps215)
    go_wp2_with fail;refine(HL.out _ (by simp)).mono ?_;rintro e w' ⟨rfl,rfl⟩;go_wp2_with fail;go_ret2;exact⟨by rw[HR.out];rfl,rfl⟩
   ·have HR:=ac (show iJ ws k= .tuple #[.string ⟨#[]⟩,.int .i64 12] by rw[iJ,if_neg (by omega)]);have hk2:(ws.length:Int)≤k:=by omega
    clear hr
    first | (go_enter Tryz.func205,Tryz.ntmps205) | (go_enter Tryz.func206,Tryz.ntmps206) | (go_enter Tryz.func215,Tryz.ntmps215)
    go_wp2_with fail;refine(HL.out _ (by simp)).mono ?_;rintro e w' ⟨rfl,rfl⟩;go_wp2_with fail;go_ret2;exact⟨by rw[HR.out];rfl,rfl⟩
theorem rf {fn:FuncId} (hf:fn=181∨fn=182∨fn= 200) {w0 w:World} {F K:SProp} {B W:Nat} {ws:List (List UInt8)} {l:List Nat} {low:Bool} (h:St w0 w (K*(az W l low*F))) (hw:∃ aw cw,w.cell? ⟨B,2,none⟩=some (.slice aw ws.length cw)∧Reads w 1 (.slice aw ws.length cw) ws.length (ws.map aQ)) (i:Int)
  (hd:kA (fB ws i)=true) (hl:(fB ws i).length≤1000000) (hm:l.length≤10000000000000):
  Calls Tryz.prog fn #[.pointer (some ⟨B,0,none⟩),.pointer (some ⟨W,0,none⟩),.int .i64 i] w fun e w'=>e= .returned (.int .i64 (if fB ws i=[] then 12 else 0))∧St w0 w' (K*(az W (l++eI (fB ws i)) low*F)):=by
 have HW:=ac (fun fn hf=>Cw (fn:=fn) hf hw i);have H:=ac h;have hC:=fun(hne:fB ws i≠[])=>mx (h.perm (af _ _ _)) (fB ws i) (by omega) hd (by omega)
 rcases hf with rfl | rfl | rfl
 all_goals
  by_cases hi:0≤i∧i<ws.length
  ·have e1:iJ ws i= .tuple #[aQ (fB ws i),.int .i64 0]:=by rw[iJ,fB,if_pos hi,if_pos hi]
   simp only[e1] at HW;clear e1;generalize fB ws i=t at*
   have HC:=ac hC;clear hC h
   by_cases ht:t=[]
   ·subst ht
    first | (go_enter Tryz.func181,Tryz.ntmps181) | (go_enter Tryz.func182,Tryz.ntmps182) | (go_enter Tryz.func200,Tryz.ntmps200)
    go_wp2_with fail;refine(HW.out _ (by simp)).mono ?_;rintro e w' ⟨rfl,rfl⟩;unfold aQ;go_wp2_with fail;go_ret;refine⟨rfl,?_⟩;simpa [eI] using H.out
   ·have hne:¬ (ByteArray.mk t.toArray).toList=[]:=by rw[ByteArray.toList_eq];exact ht
    have hne2:(ByteArray.mk t.toArray).toList.isEmpty=false:=by
     cases hq:(ByteArray.mk t.toArray).toList with
     | nil=>exact absurd hq hne
     | cons _ _=>rfl
    have C:=ac (HC.out ht);clear HC;have HT:=ac ht;clear ht;simp only[aQ] at HW;generalize ByteArray.mk t.toArray=tb at*
    first | (go_enter Tryz.func181,Tryz.ntmps181) | (go_enter Tryz.func182,Tryz.ntmps182) | (go_enter Tryz.func200,Tryz.ntmps200)
    go_wp2_with fail;refine(HW.out _ (by simp)).mono ?_;rintro e w' ⟨rfl,rfl⟩;go_wp2_with fail;refine C.out.mono ?_;rintro e w2 ⟨rfl,h2⟩;have H2:=ac h2;clear h2;go_wp2_with fail;go_ret;refine⟨rfl,H2.out.perm (af _ _ _)⟩
  ·have e1:iJ ws i= .tuple #[.string ⟨#[]⟩,.int .i64 12]:=by rw[iJ,if_neg hi]
   have e2:fB ws i=[]:=by rw[fB,if_neg hi]
   simp only[e1] at HW;rw[e2];clear hC h hd hl hi
   first | (go_enter Tryz.func181,Tryz.ntmps181) | (go_enter Tryz.func182,Tryz.ntmps182) | (go_enter Tryz.func200,Tryz.ntmps200)
   go_wp2_with fail;refine(HW.out _ (by simp)).mono ?_;rintro e w' ⟨rfl,rfl⟩;go_wp2_with fail;go_ret;refine⟨rfl,?_⟩;simpa [eI] using H.out
end Go.Proofs.YtboflbdniogcdaaGreatDoor
