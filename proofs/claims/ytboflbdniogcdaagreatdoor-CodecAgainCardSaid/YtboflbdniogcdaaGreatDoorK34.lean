/-
  Parts of a proof.
-/
import Derived.Test.YtboflbdniogcdaaGreatDoorK00
import Derived.Test.YtboflbdniogcdaaGreatDoorK32
import Derived.Test.YtboflbdniogcdaaGreatDoorK30
import Derived.Test.YtboflbdniogcdaaGreatDoorK33
set_option linter.unusedVariables false
set_option linter.unusedSimpArgs false
set_option maxRecDepth 100000
set_option maxHeartbeats 100000000
namespace Go.Proofs.YtboflbdniogcdaaGreatDoor
open Go.RowKit Go.Mz
theorem Ix (D L B A W F:SProp):D*(L*(B*(A*(W*F))))=W*(D*(L*(B*(A*F)))):=by ac_rfl
theorem mF (D L B A W F:SProp):W*(D*(L*(B*(A*F))))=A*(W*(D*(L*(B*F)))):=by ac_rfl
theorem Iy (W D L B A F:SProp):W*(D*(L*(B*(A*F))))=(D*(L*(B*A)))*(W*F):=by ac_rfl
theorem zq (D L B A W F:SProp):W*(D*(L*(B*(A*F))))=B*(W*(D*(L*(A*F)))):=by ac_rfl
theorem zr {l:List Nat} (h30:∀ n∈l,n≤30) {i:Nat} {w:List Nat} (h:(aF l)[i]? =some w):w.length≤30:=by
 obtain⟨hi,rfl⟩:=nG h;rw[iU,List.getD_eq_getElem?_getD];cases e:l[i]? with
 | none=>simp
 | some b=>have:=h30 b (aI e);simpa using this
theorem zt (far:Bool) (n:Nat):(aZ far n).2≤13:=by
 rw[aZ,List.getD_eq_getElem?_getD];cases e:(cond far aR bm)[aY far n]? with
 | none=>simp
 | some b=>
  have hm:=aI e;cases far
  ·exact(nW b hm).2
  ·exact(qm b hm).2
theorem qF {w0 w:World} {F:SProp} {B:Nat} {l:List Nat} (h:St w0 w (aB B l true*F)) (hm:l.length≤1000000000000) {la lb:List Nat} (oa:OkC la) (ob:OkC lb) (a30:∀ n∈la,n≤30) (b30:∀ n∈lb,n≤30)
  (l1:0<la.length) (l2:0<lb.length) (l3:la.length≤900) (l4:lb.length≤900) {T:List TokD} (hT:T.length≤100000) (hok:∀ k∈T,f7 k) (hus:∀ k∈T,dU (aF la) (aF lb) k) (eob:∃ w,(aF la)[256]? =some w∧w≠[])
  {vt va vb:Value} (ht:Stb w0 F (fun w=>Reads w 3 vt T.length (bQ T))) (ha:Stb w0 F (fun w=>Reads w 1 va la.length (nvs la))) (hb:Stb w0 F (fun w=>Reads w 1 vb lb.length (nvs lb))):
  Calls Tryz.prog 171 #[.pointer (some ⟨B,0,none⟩),vt,va,vb] w fun e w'=>e= .returned (.int .i64 0)∧St w0 w' (aB B (l++bZ (aF la) (aF lb) T) true*F):=by
 obtain⟨at',ct,rfl⟩:=(ht w h.right).sub;have HA:Hid (∀ W,St w0 W (aB B l true*F)→Calls Tryz.prog 199 #[va] W fun e w'=>∃ Ba,e= .returned (.tuple #[.pointer (some ⟨Ba,0,none⟩),.int .i64 0])∧St w0 w' (lC Ba (aF la)*(aB B l true*F))):=ac fun W hW=>tU hW la oa a30 l1 l3 (ha.more _)
 have HB:Hid (∀ W Ba,St w0 W (lC Ba (aF la)*(aB B l true*F))→Calls Tryz.prog 199 #[vb] W fun e w'=>∃ Bb,e= .returned (.tuple #[.pointer (some ⟨Bb,0,none⟩),.int .i64 0])∧St w0 w' (lC Bb (aF lb)*(lC Ba (aF la)*(aB B l true*F)))):=ac fun W Ba hW=>tU hW lb ob b30 l2 l4 ((hb.more _).more _)
 have HT:=ac ht;have H:=ac h;have HOK:=ac hok;have HUS:=ac hus;have HEOB:=ac eob;have HA30:Hid (∀ (i:Nat) (w:List Nat),(aF la)[i]? =some w→w.length≤30):=ac fun i w=>zr a30
 have HB30:Hid (∀ (i:Nat) (w:List Nat),(aF lb)[i]? =some w→w.length≤30):=ac fun i w=>zr b30
 have BA:=ju la;have BB:=ju lb;clear h ht ha hb oa ob a30 b30 l1 l2 l3 l4 hok hus eob;generalize aF la=A at*
 generalize aF lb=Bw at*
 obtain⟨n,hn⟩:∃ n,T.length=n:=⟨_,rfl⟩;rw[hn] at HT hT;simp only[hn];have HN:=ac hn;have HBA:=ac BA;have HBB:=ac BB;clear hn BA BB;go_enter Tryz.func171,Tryz.ntmps171;go_wp2_with (first | (go_at_call_of 199 va;refine(HA.out _ H.out).mono ?_;rintro e w1 ⟨Ba,rfl,h1⟩;have H1:=ac h1;clear h1));refine(HB.out _ _ H1.out).mono ?_;rintro e w2 ⟨Bb,rfl,h2⟩;have H2:=ac h2;clear h2;go_wp2_with (first | (go_at_call 187;refine(tz H2.out).mono ?_;rintro e w3 ⟨vl,rfl,h3⟩;have H3:=ac h3;clear h3) | (go_at_call 188;refine(tA H3.out).mono ?_;rintro e w4 ⟨vd,rfl,h4⟩;have H4:=ac h4;clear h4));have Hs:=ac (H4.out.perm (Ix _ _ _ _ _ _));clear H1 H2 H3 H4 HA HB H;obtain⟨ad,cd,rfl⟩:=Hs.out.right.reads.sub;obtain⟨al,cl,rfl⟩:=Hs.out.right.right.reads.sub
 go_loopw [16,17,18,19,20,21,22,23,47] (fun x16 x17 x18 x19 x20 x21 x22 x23 vi wr=>∃ (k:Nat),k≤n∧vi= .int .i64 k∧(l++(T.take k).flatMap (cM A Bw)).length≤l.length+100*k∧St w0 wr (aB B (l++(T.take k).flatMap (cM A Bw)) true*_)) (fun x16 x17 x18 x19 x20 x21 x22 x23 vi _=>n-(intOf vi).toNat)
 case atStart=>exact⟨0,by omega,rfl,by simp,by simpa using Hs.out⟩
 case round=>
  clear Hs;obtain⟨k,hk,rfl,hacc,hst⟩:=hrel
  by_cases hkn:k<n
  ·have hx:=au (l:=T) (i:=k) (by rw[HN.out];exact hkn);obtain⟨b,off,rfl,c0,c1,c2⟩:=y9 (HT.out _ hst.right.right.right.right.right) hx;have hkT:k<T.length:=by rw[HN.out];exact hkn
   have htk:(T.take (k+1)).flatMap (cM A Bw)=(T.take k).flatMap (cM A Bw)++cM A Bw T[k]:=by rw[List.take_succ_eq_append_getElem hkT,kb];simp
   have HTK:=ac htk;clear htk;have hos:=HOK.out T[k] (cT _);have hus:=HUS.out T[k] (cT _);have hkl:(k:Int)<n:=by omega
   have HX:=ac hx;clear hx;generalize (T.take k).flatMap (cM A Bw)=acc at*
   generalize T[k]=o at*
   have hc:o.lit.toNat<256:=bR _;have HST:=ac hst;clear hst;have HOS:=ac hos;have HU:=ac hus;clear hos hus hkT;have HACC:=ac hacc;clear hacc
   by_cases h0:o.len=0
   ·have hu:=HU.out;unfold dU at hu;rw[if_pos h0] at hu;obtain⟨x,hx,hne⟩:=hu;have HX2:=ac hx;have HNE:=ac hne;have hxl:=HA30.out _ _ hx;have HXL:=ac hxl;clear hx hne hxl;go_wp2_with fail;have hS2:=HST.out.drop_alloc (Obj.cells #[Value.int IntKind.u8 ↑o.lit.toNat,Value.int IntKind.i64 0,Value.int IntKind.i64 o.dist] 242);refine(ot (hS2.perm (mF _ _ _ _ _ _)) HBA.out o.lit.toNat HX2.out HNE.out (by have:=HXL.out;omega) (by have:=HACC.out;omega) rfl).mono ?_;rintro e w5 ⟨rfl,h5⟩;have H5:=ac (h5.perm (mF _ _ _ _ _ _).symm);clear h5 hS2;go_wp2_with fail;have hte:cM A Bw o=x:=by unfold cM;rw[if_pos h0,List.getD_eq_getElem?_getD,HX2.out];rfl
    refine⟨⟨k+1,by omega,by go_num,?_,?_⟩,by simp [intOf];omega⟩
    ·rw[HTK.out,hte];have h1:=HACC.out;have h2:=HXL.out;simp only[ae] at h1 ⊢;omega
    ·rw[HTK.out,hte,← List.append_assoc];exact H5.out
   ·have hu:=HU.out;unfold dU at hu;rw[if_neg h0] at hu;obtain⟨⟨x,hx,hne⟩,y,hy,hney⟩:=hu;have hos:=HOS.out.resolve_left h0;obtain⟨n3,n258,d1,d9⟩:=hos;obtain⟨m,hm⟩:∃ m:Nat,o.len=m:=⟨o.len.toNat,by omega⟩;obtain⟨d,hd⟩:∃ d:Nat,o.dist=d:=⟨o.dist.toNat,by omega⟩;have HTB:=ac (show cM A Bw o=A.getD (257+aY false m) []++(jE false m++(Bw.getD (aY true d) []++jE true d)) by unfold cM;rw[if_neg h0,hm,hd];rfl);rw[hm] at c1 h0 n3 n258 hx;rw[hd] at c2 d1 d9 hy;rw[eT] at hx hy;have n3:3≤m:=by omega
    have n258:m≤258:=by omega
    have d1:1≤d:=by omega
    have d9:d≤32768:=by omega
    have hxl:=HA30.out _ _ hx;have hyl:=HB30.out _ _ hy;have e1:A.getD (257+aY false m) []=x:=by rw[List.getD_eq_getElem?_getD,hx];rfl
    have e2:Bw.getD (aY true d) []=y:=by rw[List.getD_eq_getElem?_getD,hy];rfl
    rw[e1,e2] at HTB;clear e1 e2;obtain⟨p1,p2,p3⟩:=ky n3 n258;obtain⟨q1,q2,q3⟩:=lz d1 d9;have hS2:=HST.out.drop_alloc (Obj.cells #[Value.int IntKind.u8 ↑o.lit.toNat,Value.int IntKind.i64 (m:Int),Value.int IntKind.i64 (d:Int)] 242);have CP:=qB false (N:=29) (by rfl) (show Reads _ 2 _ 29 (aU (cond false aR bm)) from hS2.right.right.reads) m (by omega) n3 (j:=(m:Int)) rfl;have CQ:=fun z=>qB true (N:=30) (by rfl) (show Reads _ 2 _ 30 (aU (cond true aR bm)) from(hS2.drewN z).right.reads) d (by omega) d1 (j:=(d:Int)) rfl
    have HCP:=ac CP;have HCQ:=ac CQ;have HS2:=ac hS2;have HB1:=ac (⟨hxl,hyl,p1,p2,p3,q1,q2,q3,hne,hney,hx,hy⟩:x.length≤30∧y.length≤30∧aY false m≤28∧(aZ false m).1≤m∧m-(aZ false m).1<2^(aZ false m).2∧aY true d≤29∧(aZ true d).1≤d∧d-(aZ true d).1<2^(aZ true d).2∧x≠[]∧y≠[]∧A[257+aY false m]? =some x∧Bw[aY true d]? =some y);clear hxl hyl p1 p2 p3 q1 q2 q3 hne hney hx hy hS2 CP CQ;clear hm hd;go_wp2_with fail;refine HCP.out.mono ?_;rintro e w5 ⟨rfl,m1,rfl⟩;go_wp2_with fail;refine(HCQ.out _).mono ?_;rintro e w5 ⟨rfl,m2,rfl⟩;have h6:=(HS2.out.drewN m1).drewN m2;generalize (World.drewN (World.drewN _ m1) m2)=w6 at*
    have em1:jE false m=bx true (m-(aZ false m).1) (aZ false m).2:=rfl;have em2:jE true d=bx true (d-(aZ true d).1) (aZ true d).2:=rfl;rw[em1,em2] at HTB;clear em1 em2;obtain⟨hxl,hyl,p1,p2,p3,q1,q2,q3,hne,hney,hx,hy⟩:=HB1.out;have g1:=zt false m;have g2:=zt true d;have gl:=mC (far:=false) (n:=m) (by show _<29;omega);have gd:=mC (far:=true) (n:=d) (by show _<30;omega)
    change bm[_]? =_ at gl;change aR[_]? =_ at gd
    have hf1:m-(aZ false m).1<4294967296:=by omega
    have hf2:d-(aZ true d).1<4294967296:=by omega
    clear HB1 p2 q2 HCP HCQ HST HS2 n3 n258 d1 d9;generalize aZ false m=f1 at*
    generalize aZ true d=f2 at*
    generalize aY false m=pa at*
    generalize aY true d=pb at*
    obtain⟨f1,k1⟩:=f1;obtain⟨f2,k2⟩:=f2;simp only at p3 q3 g1 g2 gl gd hf1 hf2 HTB ⊢;generalize m-f1=v1 at*
    generalize d-f2=v2 at*
    have H6:=ac h6;have HBX:=ac (⟨hxl,hyl,p3,q3,hne,hney,hx,hy,gl,gd,hf1,hf2⟩:x.length≤30∧y.length≤30∧v1<2^k1∧v2<2^k2∧x≠[]∧y≠[]∧A[257+pa]? =some x∧Bw[pb]? =some y∧bm[pa]? =some (f1,k1)∧aR[pb]? =some (f2,k2)∧v1<4294967296∧v2<4294967296);clear hxl hyl p3 q3 hne hney hx hy gl gd hf1 hf2 h6;have hw7:IntKind.i64.wrap (257+(pa:Int))=((257+pa:Nat):Int):=by rw[IntWalk.i64_in _ (by omega)];omega
    go_wp2_with fail;refine(ot (H6.out.perm (mF _ _ _ _ _ _)) HBA.out (257+pa) HBX.out.2.2.2.2.2.2.1 HBX.out.2.2.2.2.1 (by have:=HBX.out.1;omega) (by have:=HACC.out;omega) (by first | rfl | omega)).mono ?_;rintro e w7 ⟨rfl,h7⟩;have h7:=h7.perm (mF _ _ _ _ _ _).symm;obtain⟨bl,ol,hal,_,cl1⟩:=tV (h7.right.right.reads) HBX.out.2.2.2.2.2.2.2.2.1;cases hal;have hpaI:(pa:Int)<29:=by omega
    have hpaN:pa<29:=by omega
    have H7:=ac h7;clear h7 H6;go_wp2_with fail;refine(dz H7.out v1 k1 (by omega) (fun _=>gE HBX.out.2.2.1) HBX.out.2.2.2.2.2.2.2.2.2.2.1 (by have h1:=HACC.out;have h2:=HBX.out.1;simp only[ae] at h1 ⊢;omega)).mono ?_;rintro e w8 ⟨rfl,h8⟩;have H8:=ac h8;clear h8 H7 cl1;go_wp2_with fail;refine(ot (H8.out.perm (zq _ _ _ _ _ _)) HBB.out pb HBX.out.2.2.2.2.2.2.2.1 HBX.out.2.2.2.2.2.1 (by have:=HBX.out.2.1;omega) (by have h1:=HACC.out;have h2:=HBX.out.1;simp only[ae,eW] at h1 ⊢;omega) rfl).mono ?_;rintro e w9 ⟨rfl,h9⟩;have h9:=h9.perm (zq _ _ _ _ _ _).symm;obtain⟨bd,od,hal,_,cd1⟩:=tV (h9.right.reads) HBX.out.2.2.2.2.2.2.2.2.2.1;cases hal;have hpbI:(pb:Int)<30:=by omega
    have hpbN:pb<30:=by omega
    have H9:=ac h9;clear h9 H8;go_wp2_with fail;refine(dz H9.out v2 k2 (by omega) (fun _=>gE HBX.out.2.2.2.1) HBX.out.2.2.2.2.2.2.2.2.2.2.2 (by have h1:=HACC.out;have h2:=HBX.out.1;have h3:=HBX.out.2.1;simp only[ae,eW] at h1 ⊢;omega)).mono ?_;rintro e wA ⟨rfl,hA⟩;have HA:=ac hA;clear hA H9 cd1;go_wp2_with fail;refine⟨⟨k+1,by omega,by go_num,?_,?_⟩,by simp [intOf];omega⟩
    ·rw[HTK.out,HTB.out];have h1:=HACC.out;have h2:=HBX.out.1;have h3:=HBX.out.2.1;simp only[ae,eW] at h1 ⊢;omega
    ·rw[HTK.out,HTB.out];simpa only[List.append_assoc] using HA.out
  ·obtain rfl:k=n:=by omega
   obtain⟨x,hx,hne⟩:=HEOB.out;have hxl:=HA30.out _ _ hx;have htt:T.take k=T:=by rw[← HN.out];exact cS
   rw[htt] at hst hacc;have HBX:=ac (⟨hx,hne,hxl,hacc,htt⟩:A[256]? =some x∧x≠[]∧x.length≤30∧(l++T.flatMap (cM A Bw)).length≤l.length+100*k∧T.take k=T);have HST:=ac hst;clear hx hne hxl hacc hst htt;go_wp2_with fail;refine(ot (HST.out.perm (mF _ _ _ _ _ _)) HBA.out 256 HBX.out.1 HBX.out.2.1 (by have:=HBX.out.2.2.1;omega) (by have:=HBX.out.2.2.2.1;omega) rfl).mono ?_;rintro e w5 ⟨rfl,h5⟩;have h5:=h5.perm (mF _ _ _ _ _ _).symm;have h6:=(h5.perm (Iy _ _ _ _ _ _)).right;have hte:l++bZ A Bw T=l++T.flatMap (cM A Bw)++x:=by unfold bZ;rw[List.getD_eq_getElem?_getD,HBX.out.1,List.append_assoc];rfl
   rw[← hte] at h6;have H6:=ac h6;clear h5 h6 hte HST;go_wp2_with fail;go_ret;exact⟨rfl,H6.out⟩
end Go.Proofs.YtboflbdniogcdaaGreatDoor
