/-
  Parts of a proof.
-/
import Derived.Test.YtboflbdniogcdaaGreatDoorK38
import Derived.Test.YtboflbdniogcdaaGreatDoorK37
set_option linter.unusedVariables false
set_option linter.unusedSimpArgs false
set_option maxRecDepth 100000
set_option maxHeartbeats 100000000
namespace Go.Proofs.YtboflbdniogcdaaGreatDoor
open Go.RowKit Go.Mz
theorem Gm (D L B A W F:SProp):D*(L*(B*(A*(W*F))))=W*(D*(L*(B*(A*F)))):=by ac_rfl
theorem lI (D L B A W F:SProp):W*(D*(L*(B*(A*F))))=A*(W*(D*(L*(B*F)))):=by ac_rfl
theorem Gn (W D L B A F:SProp):W*(D*(L*(B*(A*F))))=(D*(L*(B*A)))*(W*F):=by ac_rfl
theorem xL (D L B A W F:SProp):W*(D*(L*(B*(A*F))))=B*(W*(D*(L*(A*F)))):=by ac_rfl
theorem xM {l:List Nat} (h30:∀ n∈l,n≤30) {i:Nat} {w:List Nat} (h:(aB l)[i]? =some w):w.length≤30:=by
 obtain⟨hi,rfl⟩:=mN h;rw[jd,List.getD_eq_getElem?_getD];cases e:l[i]? with
 | none=>simp
 | some b=>have:=h30 b (aG e);simpa using this
theorem xN (far:Bool) (n:Nat):(aS far n).2≤13:=by
 rw[aS,List.getD_eq_getElem?_getD];cases e:(cond far aY bf)[aR far n]? with
 | none=>simp
 | some b=>
  have hm:=aG e;cases far
  ·exact(oX b hm).2
  ·exact(oW b hm).2
theorem pF {w0 w:World} {F:SProp} {B:Nat} {l:List Nat} (h:St w0 w (az B l true*F)) (hm:l.length≤1000000000000) {la lb:List Nat} (oa:OkC la) (ob:OkC lb) (a30:∀ n∈la,n≤30) (b30:∀ n∈lb,n≤30)
  (l1:0<la.length) (l2:0<lb.length) (l3:la.length≤900) (l4:lb.length≤900) {T:List TokD} (hT:T.length≤100000) (hok:∀ k∈T,fT k) (hus:∀ k∈T,dV (aB la) (aB lb) k) (eob:∃ w,(aB la)[256]? =some w∧w≠[])
  {vt va vb:Value} (ht:Stb w0 F (fun w=>Reads w 3 vt T.length (bP T))) (ha:Stb w0 F (fun w=>Reads w 1 va la.length (nvs la))) (hb:Stb w0 F (fun w=>Reads w 1 vb lb.length (nvs lb))):
  Calls Tryz.prog 171 #[.pointer (some ⟨B,0,none⟩),vt,va,vb] w fun e w'=>e= .returned (.int .i64 0)∧St w0 w' (az B (l++b7 (aB la) (aB lb) T) true*F):=by
 obtain⟨at',ct,rfl⟩:=(ht w h.right).sub;have HA:Hid (∀ W,St w0 W (az B l true*F)→Calls Tryz.prog 199 #[va] W fun e w'=>∃ Ba,e= .returned (.tuple #[.pointer (some ⟨Ba,0,none⟩),.int .i64 0])∧St w0 w' (kW Ba (aB la)*(az B l true*F))):=ac fun W hW=>su hW la oa a30 l1 l3 (ha.more _)
 have HB:Hid (∀ W Ba,St w0 W (kW Ba (aB la)*(az B l true*F))→Calls Tryz.prog 199 #[vb] W fun e w'=>∃ Bb,e= .returned (.tuple #[.pointer (some ⟨Bb,0,none⟩),.int .i64 0])∧St w0 w' (kW Bb (aB lb)*(kW Ba (aB la)*(az B l true*F)))):=ac fun W Ba hW=>su hW lb ob b30 l2 l4 ((hb.more _).more _)
 have HT:=ac ht;have H:=ac h;have HOK:=ac hok;have HUS:=ac hus;have HEOB:=ac eob;have HA30:Hid (∀ (i:Nat) (w:List Nat),(aB la)[i]? =some w→w.length≤30):=ac fun i w=>xM a30
 have HB30:Hid (∀ (i:Nat) (w:List Nat),(aB lb)[i]? =some w→w.length≤30):=ac fun i w=>xM b30
 have BA:=je la;have BB:=je lb;clear h ht ha hb oa ob a30 b30 l1 l2 l3 l4 hok hus eob;generalize aB la=A at*
 generalize aB lb=Bw at*
 obtain⟨n,hn⟩:∃ n,T.length=n:=⟨_,rfl⟩;rw[hn] at HT hT;simp only[hn];have HN:=ac hn;have HBA:=ac BA;have HBB:=ac BB;clear hn BA BB;go_enter Tryz.func171,Tryz.ntmps171;go_wp2_with (first | (go_at_call_of 199 va;refine(HA.out _ H.out).mono ?_;rintro e w1 ⟨Ba,rfl,h1⟩;have H1:=ac h1;clear h1));refine(HB.out _ _ H1.out).mono ?_;rintro e w2 ⟨Bb,rfl,h2⟩;have H2:=ac h2;clear h2;go_wp2_with (first | (go_at_call 187;refine(wL H2.out).mono ?_;rintro e w3 ⟨vl,rfl,h3⟩;have H3:=ac h3;clear h3) | (go_at_call 188;refine(wM H3.out).mono ?_;rintro e w4 ⟨vd,rfl,h4⟩;have H4:=ac h4;clear h4));have Hs:=ac (H4.out.perm (Gm _ _ _ _ _ _));clear H1 H2 H3 H4 HA HB H;obtain⟨ad,cd,rfl⟩:=Hs.out.right.reads.sub;obtain⟨al,cl,rfl⟩:=Hs.out.right.right.reads.sub
 go_loopw [16,17,18,19,20,21,22,23,47] (fun x16 x17 x18 x19 x20 x21 x22 x23 vi wr=>∃ (k:Nat),k≤n∧vi= .int .i64 k∧(l++(T.take k).flatMap (cG A Bw)).length≤l.length+100*k∧St w0 wr (az B (l++(T.take k).flatMap (cG A Bw)) true*_)) (fun x16 x17 x18 x19 x20 x21 x22 x23 vi _=>n-(intOf vi).toNat)
 case atStart=>exact⟨0,by omega,rfl,by simp,by simpa using Hs.out⟩
 case round=>
  clear Hs;obtain⟨k,hk,rfl,hacc,hst⟩:=hrel
  by_cases hkn:k<n
  ·have hx:=ai (l:=T) (i:=k) (by rw[HN.out];exact hkn);obtain⟨b,off,rfl,c0,c1,c2⟩:=xx (HT.out _ hst.right.right.right.right.right) hx;have hkT:k<T.length:=by rw[HN.out];exact hkn
   have htk:(T.take (k+1)).flatMap (cG A Bw)=(T.take k).flatMap (cG A Bw)++cG A Bw T[k]:=by rw[List.take_succ_eq_append_getElem hkT,jS];simp
   have HTK:=ac htk;clear htk;have hos:=HOK.out T[k] (bo _);have hus:=HUS.out T[k] (bo _);have hkl:(k:Int)<n:=by omega
   have HX:=ac hx;clear hx;generalize (T.take k).flatMap (cG A Bw)=acc at*
   generalize T[k]=o at*
   have hc:o.lit.toNat<256:=bh _;have HST:=ac hst;clear hst;have HOS:=ac hos;have HU:=ac hus;clear hos hus hkT;have HACC:=ac hacc;clear hacc
   by_cases h0:o.len=0
   ·have hu:=HU.out;unfold dV at hu;rw[if_pos h0] at hu;obtain⟨x,hx,hne⟩:=hu;have HX2:=ac hx;have HNE:=ac hne;have hxl:=HA30.out _ _ hx;have HXL:=ac hxl;clear hx hne hxl;go_wp2_with fail;have hS2:=HST.out.drop_alloc (Obj.cells #[Value.int IntKind.u8 ↑o.lit.toNat,Value.int IntKind.i64 0,Value.int IntKind.i64 o.dist] 242);refine(nd (hS2.perm (lI _ _ _ _ _ _)) HBA.out o.lit.toNat HX2.out HNE.out (by have:=HXL.out;omega) (by have:=HACC.out;omega) rfl).mono ?_;rintro e w5 ⟨rfl,h5⟩;have H5:=ac (h5.perm (lI _ _ _ _ _ _).symm);clear h5 hS2;go_wp2_with fail;have hte:cG A Bw o=x:=by unfold cG;rw[if_pos h0,List.getD_eq_getElem?_getD,HX2.out];rfl
    refine⟨⟨k+1,by omega,by go_num,?_,?_⟩,by simp [intOf];omega⟩
    ·rw[HTK.out,hte];have h1:=HACC.out;have h2:=HXL.out;simp only[ae] at h1 ⊢;omega
    ·rw[HTK.out,hte,← List.append_assoc];exact H5.out
   ·have hu:=HU.out;unfold dV at hu;rw[if_neg h0] at hu;obtain⟨⟨x,hx,hne⟩,y,hy,hney⟩:=hu;have hos:=HOS.out.resolve_left h0;obtain⟨n3,n258,d1,d9⟩:=hos;obtain⟨m,hm⟩:∃ m:Nat,o.len=m:=⟨o.len.toNat,by omega⟩;obtain⟨d,hd⟩:∃ d:Nat,o.dist=d:=⟨o.dist.toNat,by omega⟩;have HTB:=ac (show cG A Bw o=A.getD (257+aR false m) []++(jk false m++(Bw.getD (aR true d) []++jk true d)) by unfold cG;rw[if_neg h0,hm,hd];rfl);rw[hm] at c1 h0 n3 n258 hx;rw[hd] at c2 d1 d9 hy;rw[gq] at hx hy;have n3:3≤m:=by omega
    have n258:m≤258:=by omega
    have d1:1≤d:=by omega
    have d9:d≤32768:=by omega
    have hxl:=HA30.out _ _ hx;have hyl:=HB30.out _ _ hy;have e1:A.getD (257+aR false m) []=x:=by rw[List.getD_eq_getElem?_getD,hx];rfl
    have e2:Bw.getD (aR true d) []=y:=by rw[List.getD_eq_getElem?_getD,hy];rfl
    rw[e1,e2] at HTB;clear e1 e2;obtain⟨p1,p2,p3⟩:=ka n3 n258;obtain⟨q1,q2,q3⟩:=kS d1 d9;have hS2:=HST.out.drop_alloc (Obj.cells #[Value.int IntKind.u8 ↑o.lit.toNat,Value.int IntKind.i64 (m:Int),Value.int IntKind.i64 (d:Int)] 242);have CP:=pE false (N:=29) (by rfl) (show Reads _ 2 _ 29 (dI (cond false aY bf)) from hS2.right.right.reads) m (by omega) n3 (j:=(m:Int)) rfl;have CQ:=fun z=>pE true (N:=30) (by rfl) (show Reads _ 2 _ 30 (dI (cond true aY bf)) from(hS2.drewN z).right.reads) d (by omega) d1 (j:=(d:Int)) rfl
    have HCP:=ac CP;have HCQ:=ac CQ;have HS2:=ac hS2;have HB1:=ac (⟨hxl,hyl,p1,p2,p3,q1,q2,q3,hne,hney,hx,hy⟩:x.length≤30∧y.length≤30∧aR false m≤28∧(aS false m).1≤m∧m-(aS false m).1<2^(aS false m).2∧aR true d≤29∧(aS true d).1≤d∧d-(aS true d).1<2^(aS true d).2∧x≠[]∧y≠[]∧A[257+aR false m]? =some x∧Bw[aR true d]? =some y);clear hxl hyl p1 p2 p3 q1 q2 q3 hne hney hx hy hS2 CP CQ;clear hm hd;go_wp2_with fail;refine HCP.out.mono ?_;rintro e w5 ⟨rfl,m1,rfl⟩;go_wp2_with fail;refine(HCQ.out _).mono ?_;rintro e w5 ⟨rfl,m2,rfl⟩;have h6:=(HS2.out.drewN m1).drewN m2;generalize (World.drewN (World.drewN _ m1) m2)=w6 at*
    have em1:jk false m=bi true (m-(aS false m).1) (aS false m).2:=rfl;have em2:jk true d=bi true (d-(aS true d).1) (aS true d).2:=rfl;rw[em1,em2] at HTB;clear em1 em2;obtain⟨hxl,hyl,p1,p2,p3,q1,q2,q3,hne,hney,hx,hy⟩:=HB1.out;have g1:=xN false m;have g2:=xN true d;have gl:=lF (far:=false) (n:=m) (by show _<29;omega);have gd:=lF (far:=true) (n:=d) (by show _<30;omega)
    change bf[_]? =_ at gl;change aY[_]? =_ at gd
    have hf1:m-(aS false m).1<4294967296:=by omega
    have hf2:d-(aS true d).1<4294967296:=by omega
    clear HB1 p2 q2 HCP HCQ HST HS2 n3 n258 d1 d9;generalize aS false m=f1 at*
    generalize aS true d=f2 at*
    generalize aR false m=pa at*
    generalize aR true d=pb at*
    obtain⟨f1,k1⟩:=f1;obtain⟨f2,k2⟩:=f2;simp only at p3 q3 g1 g2 gl gd hf1 hf2 HTB ⊢;generalize m-f1=v1 at*
    generalize d-f2=v2 at*
    have H6:=ac h6;have HBX:=ac (⟨hxl,hyl,p3,q3,hne,hney,hx,hy,gl,gd,hf1,hf2⟩:x.length≤30∧y.length≤30∧v1<2^k1∧v2<2^k2∧x≠[]∧y≠[]∧A[257+pa]? =some x∧Bw[pb]? =some y∧bf[pa]? =some (f1,k1)∧aY[pb]? =some (f2,k2)∧v1<4294967296∧v2<4294967296);clear hxl hyl p3 q3 hne hney hx hy gl gd hf1 hf2 h6;have hw7:IntKind.i64.wrap (257+(pa:Int))=((257+pa:Nat):Int):=by rw[IntWalk.i64_in _ (by omega)];omega
    go_wp2_with fail;refine(nd (H6.out.perm (lI _ _ _ _ _ _)) HBA.out (257+pa) HBX.out.2.2.2.2.2.2.1 HBX.out.2.2.2.2.1 (by have:=HBX.out.1;omega) (by have:=HACC.out;omega) (by first | rfl | omega)).mono ?_;rintro e w7 ⟨rfl,h7⟩;have h7:=h7.perm (lI _ _ _ _ _ _).symm;obtain⟨bl,ol,hal,_,cl1⟩:=sw (h7.right.right.reads) HBX.out.2.2.2.2.2.2.2.2.1;cases hal;have hpaI:(pa:Int)<29:=by omega
    have hpaN:pa<29:=by omega
    have H7:=ac h7;clear h7 H6;go_wp2_with fail;refine(dE H7.out v1 k1 (by omega) (fun _=>fv HBX.out.2.2.1) HBX.out.2.2.2.2.2.2.2.2.2.2.1 (by have h1:=HACC.out;have h2:=HBX.out.1;simp only[ae] at h1 ⊢;omega)).mono ?_;rintro e w8 ⟨rfl,h8⟩;have H8:=ac h8;clear h8 H7 cl1;go_wp2_with fail;refine(nd (H8.out.perm (xL _ _ _ _ _ _)) HBB.out pb HBX.out.2.2.2.2.2.2.2.1 HBX.out.2.2.2.2.2.1 (by have:=HBX.out.2.1;omega) (by have h1:=HACC.out;have h2:=HBX.out.1;simp only[ae,fc] at h1 ⊢;omega) rfl).mono ?_;rintro e w9 ⟨rfl,h9⟩;have h9:=h9.perm (xL _ _ _ _ _ _).symm;obtain⟨bd,od,hal,_,cd1⟩:=sw (h9.right.reads) HBX.out.2.2.2.2.2.2.2.2.2.1;cases hal;have hpbI:(pb:Int)<30:=by omega
    have hpbN:pb<30:=by omega
    have H9:=ac h9;clear h9 H8;go_wp2_with fail;refine(dE H9.out v2 k2 (by omega) (fun _=>fv HBX.out.2.2.2.1) HBX.out.2.2.2.2.2.2.2.2.2.2.2 (by have h1:=HACC.out;have h2:=HBX.out.1;have h3:=HBX.out.2.1;simp only[ae,fc] at h1 ⊢;omega)).mono ?_;rintro e wA ⟨rfl,hA⟩;have HA:=ac hA;clear hA H9 cd1;go_wp2_with fail;refine⟨⟨k+1,by omega,by go_num,?_,?_⟩,by simp [intOf];omega⟩
    ·rw[HTK.out,HTB.out];have h1:=HACC.out;have h2:=HBX.out.1;have h3:=HBX.out.2.1;simp only[ae,fc] at h1 ⊢;omega
    ·rw[HTK.out,HTB.out];simpa only[List.append_assoc] using HA.out
  ·obtain rfl:k=n:=by omega
   obtain⟨x,hx,hne⟩:=HEOB.out;have hxl:=HA30.out _ _ hx;have htt:T.take k=T:=by rw[← HN.out];exact cI
   rw[htt] at hst hacc;have HBX:=ac (⟨hx,hne,hxl,hacc,htt⟩:A[256]? =some x∧x≠[]∧x.length≤30∧(l++T.flatMap (cG A Bw)).length≤l.length+100*k∧T.take k=T);have HST:=ac hst;clear hx hne hxl hacc hst htt;go_wp2_with fail;refine(nd (HST.out.perm (lI _ _ _ _ _ _)) HBA.out 256 HBX.out.1 HBX.out.2.1 (by have:=HBX.out.2.2.1;omega) (by have:=HBX.out.2.2.2.1;omega) rfl).mono ?_;rintro e w5 ⟨rfl,h5⟩;have h5:=h5.perm (lI _ _ _ _ _ _).symm;have h6:=(h5.perm (Gn _ _ _ _ _ _)).right;have hte:l++b7 A Bw T=l++T.flatMap (cG A Bw)++x:=by unfold b7;rw[List.getD_eq_getElem?_getD,HBX.out.1,List.append_assoc];rfl
   rw[← hte] at h6;have H6:=ac h6;clear h5 h6 hte HST;go_wp2_with fail;go_ret;exact⟨rfl,H6.out⟩
end Go.Proofs.YtboflbdniogcdaaGreatDoor
