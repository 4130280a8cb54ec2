/-
  Parts of a proof.
-/
import Derived.Laws.Cover3
import Derived.Test.YtboflbdniogcdaaGreatDoorK19
set_option linter.unusedVariables false
set_option linter.unusedSimpArgs false
set_option maxRecDepth 100000
set_option maxHeartbeats 100000000
namespace Go.Proofs.YtboflbdniogcdaaGreatDoor
open Go.RowKit Go.Mz
theorem Cn (l:List (List UInt8)):∀ u∈l.map aQ,u.oneCell'=true:=by
 intro u hu;obtain⟨c,_,rfl⟩:=bW.1 hu;rfl
theorem uK {w0 w:World} {F:SProp} (h:St w0 w F) (xs:List (List UInt8)) (hl:xs.length≤1000000) {v:Value} (hv:Stb w0 F (fun w=>Reads w 1 v xs.length (xs.map aQ))):
  Calls Tryz.prog 176 #[v] w fun e w'=>∃ v',e= .returned v'∧St w0 w' (own 9 1 v' xs.length (xs.map aQ)*F):=by
 have T:=mF;have H:=ac h;have hr:=hv w h;clear h;obtain⟨hxl,⟨rfl,hn⟩ | ⟨x,cap,rfl,h1,h2,h3⟩⟩:=hr
 ·have hx0:xs=[]:=bC hn;subst hx0;have hq:(binOp .eql 38 (.slice none 0 0) (.slice none 0 0)).run Tryz.prog w= .ok (.bool true) w:=by kernel_rfl
  go_enter Tryz.func176,Tryz.ntmps176;go_wp2_with fail;go_ret;exact⟨_,rfl,St.own_nil _ _ H.out⟩
 ·have HV:=ac hv;clear hv hxl h1 h2 h3;have hq:(binOp .eql 38 (.slice (some x) xs.length cap) (.slice none 0 0)).run Tryz.prog w= .ok (.bool false) w:=by
   have:=run_equal_slice_nil (P:=Tryz.prog) w 38 9 (some x) xs.length cap Tryz.underlying38;simp [binOp,this]
  go_enter Tryz.func176,Tryz.ntmps176;go_wp2_with (at_builtin;apply ag);refine on (aC T rfl _ _ rfl rfl (St.own_blk (e:=9) (size:=1) (n:=0) (cap:=0) (xs:=[]) (H.out.alloc (.cells #[] 9)) (Nat.le_refl _) (Nat.zero_le _) rfl rfl) rfl (HV.out _ (H.out.drop_alloc _)) (Cn xs) ?_ ?_ ?_)
  ·unfold maxLen;omega
  ·omega
  intro v' w3 h4 _;simp only[bQ,ba] at h4;obtain⟨a',cap',rfl⟩:=h4.reads.sub;have H4:=ac h4;clear h4;go_wp2_with fail;go_ret;exact⟨_,rfl,H4.out⟩
theorem fA:ElemT Tryz.prog 79 3 1 8 (iv 0):=
 ⟨Tryz.underlying79,info_parts (by kernel_rfl),rfl,by decide⟩
theorem dS (l:List Int):∀ u∈l.map iv,u.oneCell'=true:=by
 intro u hu;obtain⟨c,_,rfl⟩:=bW.1 hu;rfl
theorem Co {w0 w:World} {F:SProp} (h:St w0 w F) (xs:List Int) (hl:xs.length≤1000000) {v:Value} (hv:Stb w0 F (fun w=>Reads w 1 v xs.length (xs.map iv))):
  Calls Tryz.prog 175 #[v] w fun e w'=>∃ v',e= .returned v'∧St w0 w' (own 3 1 v' xs.length (xs.map iv)*F):=by
 have T:=fA;have H:=ac h;have hr:=hv w h;clear h;obtain⟨hxl,⟨rfl,hn⟩ | ⟨x,cap,rfl,h1,h2,h3⟩⟩:=hr
 ·have hx0:xs=[]:=bC hn;subst hx0;have hq:(binOp .eql 79 (.slice none 0 0) (.slice none 0 0)).run Tryz.prog w= .ok (.bool true) w:=by kernel_rfl
  go_enter Tryz.func175,Tryz.ntmps175;go_wp2_with fail;go_ret;exact⟨_,rfl,St.own_nil _ _ H.out⟩
 ·have HV:=ac hv;clear hv hxl h1 h2 h3;have hq:(binOp .eql 79 (.slice (some x) xs.length cap) (.slice none 0 0)).run Tryz.prog w= .ok (.bool false) w:=by
   have:=run_equal_slice_nil (P:=Tryz.prog) w 79 3 (some x) xs.length cap Tryz.underlying79;simp [binOp,this]
  go_enter Tryz.func175,Tryz.ntmps175;go_wp2_with (at_builtin;apply ag);refine on (aC T rfl _ _ rfl rfl (St.own_blk (e:=3) (size:=1) (n:=0) (cap:=0) (xs:=[]) (H.out.alloc (.cells #[] 3)) (Nat.le_refl _) (Nat.zero_le _) rfl rfl) rfl (HV.out _ (H.out.drop_alloc _)) (dS xs) ?_ ?_ ?_)
  ·unfold maxLen;omega
  ·omega
  intro v' w3 h4 _;simp only[bQ,ba] at h4;obtain⟨a',cap',rfl⟩:=h4.reads.sub;have H4:=ac h4;clear h4;go_wp2_with fail;go_ret;exact⟨_,rfl,H4.out⟩
theorem Cp:ElemT Tryz.prog 191 196 1 8 (iv 0):=
 ⟨Tryz.underlying191,info_parts (by kernel_rfl),rfl,by decide⟩
theorem Cq {w0 w:World} {F:SProp} (h:St w0 w F) (xs:List Int) (hl:xs.length≤1000000) {v:Value} (hv:Stb w0 F (fun w=>Reads w 1 v xs.length (xs.map iv))):
  Calls Tryz.prog 178 #[v] w fun e w'=>∃ v',e= .returned v'∧St w0 w' (own 196 1 v' xs.length (xs.map iv)*F):=by
 have T:=Cp;have H:=ac h;have hr:=hv w h;clear h;obtain⟨hxl,⟨rfl,hn⟩ | ⟨x,cap,rfl,h1,h2,h3⟩⟩:=hr
 ·have hx0:xs=[]:=bC hn;subst hx0;have hq:(binOp .eql 191 (.slice none 0 0) (.slice none 0 0)).run Tryz.prog w= .ok (.bool true) w:=by kernel_rfl
  go_enter Tryz.func178,Tryz.ntmps178;go_wp2_with fail;go_ret;exact⟨_,rfl,St.own_nil _ _ H.out⟩
 ·have HV:=ac hv;clear hv hxl h1 h2 h3;have hq:(binOp .eql 191 (.slice (some x) xs.length cap) (.slice none 0 0)).run Tryz.prog w= .ok (.bool false) w:=by
   have:=run_equal_slice_nil (P:=Tryz.prog) w 191 196 (some x) xs.length cap Tryz.underlying191;simp [binOp,this]
  go_enter Tryz.func178,Tryz.ntmps178;go_wp2_with (at_builtin;apply ag);refine on (aC T rfl _ _ rfl rfl (St.own_blk (e:=196) (size:=1) (n:=0) (cap:=0) (xs:=[]) (H.out.alloc (.cells #[] 196)) (Nat.le_refl _) (Nat.zero_le _) rfl rfl) rfl (HV.out _ (H.out.drop_alloc _)) (dS xs) ?_ ?_ ?_)
  ·unfold maxLen;omega
  ·omega
  intro v' w3 h4 _;simp only[bQ,ba] at h4;obtain⟨a',cap',rfl⟩:=h4.reads.sub;have H4:=ac h4;clear h4;go_wp2_with fail;go_ret;exact⟨_,rfl,H4.out⟩
def mG (bt et:TypeId) (B:Nat) (N:List Nd) (ms:List Int) (ws:List (List UInt8)):SProp:=gt fun x:Value × Value × Value=>
 blk B (.cells #[x.1,x.2.1,x.2.2] bt)*(own 245 3 x.1 N.length (dz N)*(own et 1 x.2.1 ms.length (ms.map iv)*own 9 1 x.2.2 ws.length (ws.map aQ)))
abbrev rc:=mG 254 196
abbrev re:=mG 250 3
theorem uL {fn:FuncId} {bt et:TypeId} (hf:(fn=140∧bt=254∧et=196)∨(fn=138∧bt=250∧et=3)) {w0 w:World} {F:SProp} (h:St w0 w F) (ws:List (List UInt8)) (ms:List Int) (hlen:ms.length=ws.length) (hl:ws.length≤900) (hsz:∀ (i:Nat) (t:List UInt8),ws[i]? =some t→t.length≤1000) {vw vm:Value}
  (hvw:Stb w0 F (fun w=>Reads w 1 vw ws.length (ws.map aQ))) (hvm:Stb w0 F (fun w=>Reads w 1 vm ms.length (ms.map iv))) {N:List Nd} {er:Nat} (hR:ij [bw] 0 ws=(N,er)):
  Calls Tryz.prog fn #[vw,vm] w fun e w'=>(er=0→∃ B,e= .returned (.tuple #[.pointer (some ⟨B,0,none⟩),.int .i64 0])∧St w0 w' (mG bt et B N ms ws*F)∧NOk N)∧
   (er≠0→e= .returned (.tuple #[.pointer none,.int .i64 er])∧St w0 w' F):=by
 rcases hf with ⟨rfl,hbt,het⟩ | ⟨rfl,hbt,het⟩
 all_goals
  have HBT:=ac hbt;have HET:=ac het;clear hbt het;obtain⟨aw,cw,rfl⟩:=(hvw w h).sub;obtain⟨am,cm,rfl⟩:=(hvm w h).sub;have HVW:=ac hvw;clear hvw;have HVM:=ac hvm;clear hvm;have HSZ:=ac hsz;clear hsz;have HR:=ac hR;clear hR;have hA:=h.alloc (.cells #[.int .i64 0,.int .i64 0,.int .i64 (-1)] 245);have hA1:St w0 _ (own 245 3 (.slice (some ⟨w.heap.size,0,none⟩) 1 1) 1 (dz [bw])*_):=hA.own_blk (Nat.le_refl _) (by unfold maxLen;omega) rfl rfl;have H1:=ac hA1;clear hA hA1 h;have hln:((ws.length:Int) != ms.length)=false:=by rw[hlen];simp
  have hml:ms.length≤900:=by omega
  have HLEN:=ac hlen;clear hlen
  first | (go_enter Tryz.func140,Tryz.ntmps140) | (go_enter Tryz.func138,Tryz.ntmps138)
  go_wp2_with fail;generalize hbn:w.heap.size=bn at*
  first
  | (go_at_call 178;refine(Cq H1.out ms (by omega) (v:= .slice am ms.length cm) (fun w h=>HVM.out w h.right)).mono ?_)
  | (go_at_call 175;refine(Co H1.out ms (by omega) (v:= .slice am ms.length cm) (fun w h=>HVM.out w h.right)).mono ?_)
  rintro e w2 ⟨v2,rfl,h2⟩;have h2:=h2.perm (congrArg (· *_) (show _=own et 1 v2 ms.length (ms.map iv) by rw[HET.out]));obtain⟨a2,c2,rfl⟩:=h2.reads.sub;have H2:=ac h2;clear h2;go_wp2_with fail;refine(uK H2.out ws (by omega) (fun w h=>HVW.out w h.right.right)).mono ?_;rintro e w3 ⟨v3,rfl,h3⟩;obtain⟨a3,c3,rfl⟩:=h3.reads.sub;have h4:=h3.alloc (.cells #[.slice (some ⟨bn,0,none⟩) 1 1,.slice a2 ms.length c2,.slice a3 ws.length c3] bt);rw[HBT.out] at h4;have H4:=ac h4;clear h4 h3;go_wp2_with fail;generalize hB:w3.heap.size=B at*
  have h5:=H4.out.perm (show _=blk B (.cells #[.slice (some ⟨bn,0,none⟩) 1 1,.slice a2 ms.length c2,.slice a3 ws.length c3] bt)*(own 245 3 (.slice (some ⟨bn,0,none⟩) 1 1) 1 (dz [bw])*(own et 1 (.slice a2 ms.length c2) ms.length (ms.map iv)*(own 9 1 (.slice a3 ws.length c3) ws.length (ws.map aQ)*F))) by rw[HBT.out];ac_rfl);have H5:=ac h5;clear h5;clear H4 H2 H1 hbn hB
  go_loopw [25] (fun vi wr=>∃ (k:Nat) (N1:List Nd) (vn1:Value),k≤ws.length∧vi= .int .i64 k∧NOk N1∧N1.length≤1+1000*k∧ij N1 k (ws.drop k)=(N,er)∧
   St w0 wr (blk B (.cells #[vn1,.slice a2 ms.length c2,.slice a3 ws.length c3] bt)*(own 245 3 vn1 N1.length (dz N1)*(own et 1 (.slice a2 ms.length c2) ms.length (ms.map iv)*(own 9 1 (.slice a3 ws.length c3) ws.length (ws.map aQ)*F))))) (fun vi _=>ws.length-(intOf vi).toNat)
  case atStart=>exact⟨0,[bw],_,by omega,rfl,NOk.one,by simp,HR.out,H5.out⟩
  case round=>
   clear H5 HR;obtain⟨k,N1,vn1,hk,rfl,hN1,hlN,hlay,hst⟩:=hrel
   by_cases hkn:k<ws.length
   ·obtain⟨g,off,rfl,hc⟩:=(HVW.out wr hst.right.right.right.right).at_ hkn;have hx:=ai hkn;have hdrop:ws.drop k=ws[k]::ws.drop (k+1):=cC hkn;have hs1:=HSZ.out k _ hx;generalize ws[k]=t at*
    have hc':(ws.map aQ)[k]? =some (.string ⟨t.toArray⟩):=by simp [hx,aQ]
    rw[hc'] at hc;rw[hdrop,ij] at hlay;clear hc' hx hdrop;have HLAY:=ac hlay;clear hlay;have C:=ac (fun fn hf=>uJ (fn:=fn) (bt:=bt) hf hst hN1 (by omega) t (by omega) k (by omega));have HST:=ac hst;clear hst;generalize ByteArray.mk t.toArray=tb at*
    have hk1:(k:Int)<ws.length:=by omega
    go_wp2_with fail;refine(C.out _ (by rw[HBT.out];simp)).mono ?_;rintro e w5 ⟨vn',rfl,h5,hN',hl'⟩;generalize lay N1 t k=LL at*
    obtain⟨N',er'⟩:=LL;simp only at h5 hN' hl' HLAY
    by_cases her:er'=0
    ·subst her;have hlay:=HLAY.out;rw[if_pos rfl] at hlay;have H5:=ac h5;clear h5;have HL:=ac hlay;clear hlay;go_wp2_with fail;exact⟨⟨k+1,N',vn',by omega,by go_num,hN',by omega,HL.out,H5.out⟩,by simp [intOf];omega⟩
    ·have hlay:=HLAY.out;rw[if_neg her] at hlay;have hlay2:N=N'∧er=er':=by
      cases hlay;exact⟨rfl,rfl⟩
     have HLL:=ac hlay2;clear hlay hlay2 HLAY;have H5:=ac h5;clear h5;have he1:¬ (er':Int)=0:=by omega
     go_wp2_with fail;go_ret2;refine⟨fun e0=>absurd (HLL.out.2 ▸ e0) her,fun _=>⟨by rw[HLL.out.2];rfl,H5.out.right.right.right.right⟩⟩
   ·obtain rfl:k=ws.length:=by omega
    rw[iT,ij] at hlay;have hlay2:N=N1∧er=0:=by
     cases hlay;exact⟨rfl,rfl⟩
    obtain⟨rfl,rfl⟩:=hlay2;have HST:=ac hst;clear hst hlay;go_wp2_with fail;go_ret2;have hfin:St w0 wr (mG bt et B N ms ws*F):=St.mk_ex_l (vn1,.slice a2 ms.length c2,.slice a3 ws.length c3) (HST.out.perm (by ac_rfl));refine⟨B,?_,hfin⟩;rfl
def uM (r:Nat × (Nat ⊕ Nat)) (p:Nat) (z:Int) (x p':Nat):Prop:=
 p'=p+r.1∧match r.2 with
 | .inl i=>x=0∧z=i
 | .inr e=>x=e
end Go.Proofs.YtboflbdniogcdaaGreatDoor
