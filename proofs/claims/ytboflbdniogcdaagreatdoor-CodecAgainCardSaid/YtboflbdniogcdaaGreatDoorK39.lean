/-
  Parts of a proof.
-/
import Derived.Test.YtboflbdniogcdaaGreatDoorK00
import Derived.Test.YtboflbdniogcdaaGreatDoorK04
import Derived.Test.YtboflbdniogcdaaGreatDoorK31
import Derived.Test.YtboflbdniogcdaaGreatDoorK38
import Derived.Lib.SlBytesConst
import Derived.RegionTactic
import Derived.BigRegion
import Derived.BigQuiet
import Derived.Test.YtboflbdniogcdaaGreatDoorK02
import Derived.Test.YtboflbdniogcdaaGreatDoorK12
import Derived.Test.YtboflbdniogcdaaGreatDoorK13
import Derived.Test.YtboflbdniogcdaaGreatDoorK07
set_option linter.unusedVariables false
set_option linter.unusedSimpArgs false
set_option maxRecDepth 100000
set_option maxHeartbeats 100000000
namespace Go.Proofs.YtboflbdniogcdaaGreatDoor
open Go.RowKit Go.Mz
def oz (x y:Nat):Bool:=x%16 != 8||decide (7<x/16)||((x*256+y)%31 != 0)||(y/32%2==1)
def mI (r:List UInt8) (most:Int):Nat ⊕ (List UInt8 × Nat):=
 match fY r most with
 | .inl e=> .inl e
 | .inr (o,n)=>if r.length<n+4 then .inl 2 else if cI ((r.drop n).take 4)≠eV o then .inl 4 else .inr (o,n+6)
def j6 (bs:List UInt8) (most:Int):Nat ⊕ (List UInt8 × Nat):=
 if most<0 then .inl 1
 else match bs with
  | x::y::r=>if oz x.toNat y.toNat then .inl 3 else mI r most
  | _=> .inl 2
theorem Jx (x:Nat) (h:x<256):bits .and .u8 (x:Int) 15=((x%16:Nat):Int):=by
 have:=u8_and_nat x 15 h (by decide);rw[show x &&& 15=x%16 from Ax x 4] at this;exact this
theorem Jy (x:Nat) (h:x<256):bits .and .u8 (x:Int) 32=((x/32%2*32:Nat):Int):=by
 have:=u8_and_nat x 32 h (by decide);have e:x &&& 32=x/32%2*32:=by
  have key:∀ y:Fin 256,y.val &&& 32=y.val/32%2*32:=by decide
  exact key ⟨x,h⟩
 rw[e] at this;exact this
theorem Jz {a b c d:Bool} (h:(a||b||c||d)=true):a=true∨(a=false∧b=true)∨(a=false∧b=false∧c=true)∨(a=false∧b=false∧c=false∧d=true):=by
 cases a <;> cases b <;> cases c <;> cases d <;> simp_all
theorem JA (A B C D:SProp):A*(B*(C*D))=B*(A*(C*D)):=by ac_rfl
theorem z4 {w0 w:World} {F:SProp} (h:St w0 w F) {b:List UInt8} (hb:b.length≤1000000) {v:Value} (hv:Stb w0 F (fun w=>Reads w 1 v b.length (b.map bv))) {how:Nat} (hh:how≤2):
  Calls Tryz.prog 42 #[v,.int .i64 (how:Int)] w fun e w'=>∃ v' x z,e= .returned (.tuple #[v',.int .i64 0])∧DefS b how x∧x.length≤100000000∧z=(120:UInt8)::1::(az true x++ej true (eV b) 4)∧St w0 w' (own 5 1 v' z.length (z.map bv)*F):=by
 have HD:=ac (Jw h hb hv hh);have HV:=ac hv;clear h hv hh;have T:=cP;go_enter Tryz.func42,Tryz.ntmps42;go_wp2_with (go_at_call 89;apply ap);refine on ?_;refine HD.out.mono ?_;rintro e w2 ⟨v2,x,rfl,hx,hxl,h2⟩;have hXl:=dq true x;obtain⟨X,hX⟩:∃ X,az true x=X:=⟨_,rfl⟩;rw[hX] at h2 hXl;rw[← hXl] at h2;have hXm:X.length≤20000000:=by rw[hXl];omega
 obtain⟨nX,hnX⟩:∃ nX,X.length=nX:=⟨_,rfl⟩;rw[hnX] at h2 hXm;obtain⟨a2,c2,rfl⟩:=h2.reads.sub;have H2:=ac h2;have HX:=ac hx;have HNX:=ac hnX;have HXX:=ac hX;clear h2 hx hnX hX hXl HD;go_wp2_with (go_at_call 90;apply ap);refine on ?_;refine(rI H2.out (HV.out.more _)).mono ?_;rintro e w3 ⟨rfl,h3⟩;have H3:=ac h3;have HP:=ac (vC h3 (v:=eV b) (n:=4) (.inr (.inr (.inl rfl))) (na b) true);clear h3 H2;have hlt:=na b;obtain⟨ad,had⟩:∃ ad,eV b=ad:=⟨_,rfl⟩;rw[had] at HP hlt ⊢;have HAD:=ac had;clear had;go_wp2_with (go_at_call 83;apply ap);refine on ?_;refine HP.out.mono ?_;rintro e w4 ⟨v4,rfl,h4⟩;have hSl:=kX true ad 4;obtain⟨S,hS⟩:∃ S,ej true ad 4=S:=⟨_,rfl⟩;rw[hS] at h4 hSl;have HSS:=ac hS;clear hS;obtain⟨a4,c4,rfl⟩:=h4.reads.sub;have H4:=ac h4;have HSL:=ac hSl;clear h4 H3 HP hSl;go_wp2_with (at_builtin;apply ap);have h5:=H4.out.lit (([120,1]:List UInt8).map bv).toArray 5 2 rfl (by decide);refine on (aG T rfl _ _ rfl rfl h5 rfl h5.right.right.reads (dN X) (by unfold maxLen;omega) (by omega) ?_);intro v5 w5 h6 _;obtain⟨a5,c5,rfl⟩:=h6.reads.sub;have H6:=ac h6;clear h5 h6 H4;go_wp2_with (at_builtin;apply ap);refine on (aG T rfl _ _ rfl rfl H6.out rfl H6.out.right.reads (dN S) (by unfold maxLen;omega) (by omega) ?_);intro v7 w7 h7 _;have H7:=ac h7;clear h7 H6;go_wp2_with fail;go_ret2;refine⟨v7,x,120::1::(X++S),rfl,HX.out,hxl,by rw[HXX.out,HAD.out,HSS.out],?_⟩;have h8:=H7.out.perm (JA _ _ _ _);have h9:=(H7.out.perm (ak _ _ _)).right;have e1:([120,1]:List UInt8).map bv++X.map bv++S.map bv=((120:UInt8)::1::(X++S)).map bv:=by simp
 have e2:2+nX+4=((120:UInt8)::1::(X++S)).length:=by simp [HNX.out,HSL.out];omega
 have h10:=h9.perm (ak _ _ _);rw[← e2,← e1];exact h10.right
theorem JB {w0 w:World} {F:SProp} (h:St w0 w F) {a:Option Addr} {L c:Nat} {most:Int} (hm:most<0):
  Calls Tryz.prog 73 #[.slice a L c,.int .i64 most] w fun e w'=>e= .returned (.tuple #[.slice none 0 0,.int .i64 0,.int .i64 1])∧St w0 w' F:=by
 have H:=ac h;clear h;go_enter Tryz.func73,Tryz.ntmps73;go_wp2_with fail
 go_ret3
 exact⟨rfl,H.out⟩
theorem z5 {w0 w:World} {F:SProp} (h:St w0 w F) {a:Option Addr} {L c:Nat} {most:Nat} (hL:L<2):
  Calls Tryz.prog 73 #[.slice a L c,.int .i64 (most:Int)] w fun e w'=>e= .returned (.tuple #[.slice none 0 0,.int .i64 0,.int .i64 2])∧St w0 w' F:=by
 have H:=ac h;have hm:¬ (most:Int)<0:=by omega
 have hLI:(L:Int)<2:=by omega
 clear h;go_enter Tryz.func73,Tryz.ntmps73;go_wp2_with fail
 go_ret3
 exact⟨rfl,H.out⟩
theorem JC {w0 w:World} {F:SProp} (h:St w0 w F) (bs:List UInt8) (most:Int) (hl:bs.length≤100000000) (hm:most≤10000000000000) {vb:Value} (hv:Stb w0 F (fun w=>Reads w 1 vb bs.length (bs.map bv))):
  Calls Tryz.prog 73 #[vb,.int .i64 most] w fun e w'=>∃ (v:Value) (n x:Nat),e= .returned (.tuple #[v,.int .i64 n,.int .i64 x])∧yE (j6 bs most) v n x w0 w' F:=by
 obtain⟨ab,cb,rfl⟩:=(hv w h).sub
 by_cases hneg:most<0
 ·refine(JB h hneg).mono ?_;rintro e w2 ⟨rfl,h2⟩;exact⟨_,0,1,rfl,by unfold j6;rw[if_pos hneg];exact⟨rfl,rfl,rfl,by decide,h2⟩⟩
 obtain⟨M,rfl⟩:∃ M:Nat,most=M:=⟨most.toNat,by omega⟩
 rcases bs with _ | ⟨XY,_ | ⟨YY,r⟩⟩
 ·refine(z5 h (by simp)).mono ?_;rintro e w2 ⟨rfl,h2⟩;exact⟨_,0,2,rfl,by unfold j6;rw[if_neg hneg];exact⟨rfl,rfl,rfl,by decide,h2⟩⟩
 ·refine(z5 h (by simp)).mono ?_;rintro e w2 ⟨rfl,h2⟩;exact⟨_,0,2,rfl,by unfold j6;rw[if_neg hneg];exact⟨rfl,rfl,rfl,by decide,h2⟩⟩
 have hres:j6 (XY::YY::r) M=if oz XY.toNat YY.toNat then .inl 3 else mI r M:=by rw[j6,if_neg hneg]
 rw[hres];clear hres hneg;obtain⟨n,hn⟩:∃ n,r.length=n:=⟨_,rfl⟩;have hlen:(XY::YY::r).length=n+2:=by rw[aO,aO,hn]
 have hcap:=(iq (hv w h)).1;have hcap2:=(iq (hv w h)).2;unfold maxLen at hcap2;rw[hlen] at hv hl hcap;rw[hlen];obtain⟨b,off,rfl,k0⟩:=(hv w h).at_ (j:=0) (by omega);obtain⟨b',off',e,k1⟩:=(hv w h).at_ (j:=1) (by omega);cases e;replace k0:w.cell? ⟨b,off,none⟩=some (.int .u8 (XY.toNat:Int)):=k0;replace k1:w.cell? ⟨b,off+1,none⟩=some (.int .u8 (YY.toNat:Int)):=k1;have hx8:=bR XY;have hy8:=bR YY;have HV:=ac hv;have H:=ac h;have HN:=ac hn;have HLEN:=ac hlen;clear hv h hn hlen;have HDROP:Hid (∀ W,St w0 W F→Reads W 1 (.slice (some ⟨b,off+2,none⟩) n (cb-2)) n (r.map bv)):=ac fun W hW=>by
  have:=kg (HV.out W hW) (i:=2) (j:=n+2) (by omega) (by omega);rw[rf,Addr.add_lit] at this;have e:((((XY::YY::r).map bv).drop 2).take n)=r.map bv:=by
   simp only[cO,List.drop_succ_cons,mV];rw[cW (by rw[bS,HN.out];exact Nat.le_refl _)]
  rw[e] at this;exact this
 generalize XY.toNat=x at*
 generalize YY.toNat=y at*
 have hz0:(0:Int)<((n+2:Nat):Int):=by omega
 have hz1:(1:Int)<((n+2:Nat):Int):=by omega
 have hMn:¬ (M:Int)<0:=by omega
 have hn2:¬ ((n+2:Nat):Int)<2:=by omega
 obtain⟨L,hL⟩:∃ L,n+2=L:=⟨_,rfl⟩;rw[hL] at HV HLEN hl hcap hz0 hz1 hn2 ⊢;have HL:=ac hL;clear hL;have hz0N:0<L:=by omega
 have hz1N:1<L:=by omega
 have a15:=Jx x hx8;have a32:=Jy y hy8
 by_cases hbad:oz x y=true
 ·rw[hbad,if_pos rfl];have HB:=ac (Jz hbad);clear hbad;have fin:∀ W,(∃ m,W=w.drewN m)→St w0 W F:=fun W ⟨m,hm⟩=>by rw[hm];exact H.out.drewN m
  have FIN:=ac fin;clear fin;obtain hA | ⟨hA,hB⟩ | ⟨hA,hB,hC⟩ | ⟨hA,hB,hC,hD⟩:=HB.out
  ·have eA:((x:Int)%16 != 8)=true:=by simp at hA ⊢;omega
   clear hA;go_enter Tryz.func73,Tryz.ntmps73;go_upto_region 5 with (fail)
   go_quiet (fail);go_wp2_with fail
   go_ret3
   exact⟨_,0,3,rfl,rfl,rfl,rfl,by decide,FIN.out _ ⟨_,rfl⟩⟩
  ·have eA:((x:Int)%16 != 8)=false:=by simp at hA ⊢;omega
   have eB:decide ((7:Int)<(x:Int)/16)=true:=by simp at hB ⊢;omega
   clear hA hB;go_enter Tryz.func73,Tryz.ntmps73;go_upto_region 5 with (fail)
   go_quiet (fail);go_wp2_with fail
   go_ret3
   exact⟨_,0,3,rfl,rfl,rfl,rfl,by decide,FIN.out _ ⟨_,rfl⟩⟩
  ·have eA:((x:Int)%16 != 8)=false:=by simp at hA ⊢;omega
   have eB:decide ((7:Int)<(x:Int)/16)=false:=by simp at hB ⊢;omega
   have eC:(((x:Int)*256+(y:Int))%31 != 0)=true:=by simp at hC ⊢;omega
   clear hA hB hC;go_enter Tryz.func73,Tryz.ntmps73;go_upto_region 5 with (fail)
   go_quiet (fail);go_wp2_with fail
   go_ret3
   exact⟨_,0,3,rfl,rfl,rfl,rfl,by decide,FIN.out _ ⟨_,rfl⟩⟩
  ·have eA:((x:Int)%16 != 8)=false:=by simp at hA ⊢;omega
   have eB:decide ((7:Int)<(x:Int)/16)=false:=by simp at hB ⊢;omega
   have eC:(((x:Int)*256+(y:Int))%31 != 0)=false:=by simp at hC ⊢;omega
   have eD:((y:Int)/32%2*32 != 0)=true:=by simp at hD ⊢;omega
   clear hA hB hC hD;go_enter Tryz.func73,Tryz.ntmps73;go_upto_region 5 with (fail)
   go_quiet (fail);go_wp2_with fail
   go_ret3
   exact⟨_,0,3,rfl,rfl,rfl,rfl,by decide,FIN.out _ ⟨_,rfl⟩⟩
 ·rw[if_neg hbad];have hA:(x%16 != 8)=false∧decide (7<x/16)=false∧((x*256+y)%31 != 0)=false∧(y/32%2==1)=false:=by
   unfold oz at hbad
   revert hbad
   cases (x%16 != 8) <;> cases decide (7<x/16) <;> cases ((x*256+y)%31 != 0) <;> cases (y/32%2==1) <;> simp
  obtain⟨hA,hB,hC,hD⟩:=hA;clear hbad;have eA:((x:Int)%16 != 8)=false:=by simp at hA ⊢;omega
  have eB:decide ((7:Int)<(x:Int)/16)=false:=by simp at hB ⊢;omega
  have eC:(((x:Int)*256+(y:Int))%31 != 0)=false:=by simp at hC ⊢;omega
  have eD:((y:Int)/32%2*32 != 0)=false:=by simp at hD ⊢;omega
  clear hA hB hC hD;go_enter Tryz.func73,Tryz.ntmps73;go_upto_region 5 with (fail)
  go_quiet (fail);have HI:=ac (fun(W:World) (hW:St w0 W F) (vb:Value) (hvb:Stb w0 F (fun w=>Reads w 1 vb n (r.map bv)))=>GJ hW r (M:Int) (by rw[HN.out];have:=HL.out;omega) (by omega) (vb:=vb) (by rw[HN.out];exact hvb));have H':=ac (H.out.drewN nq);clear a15 a32 eA eB eC eD;generalize w.drewN nq=wq at*
  by_cases hc2:cb=2
  ·subst hc2;have RZ:Hid (∀ (W:World) (a:Option Addr),Reads W 1 (.slice a 0 0) n (r.map bv)):=ac fun W a=>by
    have e0:n=0:=by have:=HL.out;omega
    have hr:r=[]:=bG (by rw[HN.out];exact e0);rw[e0,hr];exact m9 W a
   have hL2:L-2=0:=by have:=HL.out;omega
   go_wp2_with (go_at_call 120;apply ap);refine on ?_;refine(HI.out _ H'.out _ (fun W hW=>RZ.out W _)).mono ?_;rintro e w2 ⟨v2,n2,x2,rfl,h2⟩;have hzr:mI r (M:Int)=match fY r (M:Int) with
     | .inl e=> .inl e
     | .inr (o,n)=>if r.length<n+4 then .inl 2 else if cI ((r.drop n).take 4)≠eV o then .inl 4 else .inr (o,n+6):=rfl
   cases hI:fY r (M:Int) with
   | inl ee=>
    rw[hI] at h2 hzr;obtain⟨rfl,rfl,rfl,hne,h2⟩:=h2;have hneI:((x2:Int) != 0)=true:=by simp;omega
    have H2:=ac h2;have HZ:=ac hzr;have HNE:=ac hne;clear h2 hzr hI hne;go_wp2_with fail
    go_ret3
    exact⟨_,0,x2,rfl,by rw[HZ.out];exact⟨rfl,rfl,rfl,HNE.out,H2.out⟩⟩
   | inr z=>
    obtain⟨o,k⟩:=z;rw[hI] at h2 hzr;obtain⟨hk1,hk2⟩:=zc hI;obtain⟨hn2k,rfl,h2⟩:=h2;rw[hn2k];clear hn2k n2;rw[HN.out] at hk1 hzr;have hon:=h2.reads.len_le;obtain⟨a2,c2,rfl⟩:=h2.reads.sub;have H2:=ac h2;have HZ:=ac hzr;clear h2 hzr hI hon;obtain⟨p,hp⟩:∃ p,2+k=p:=⟨_,rfl⟩;have hpI:(2:Int)+(k:Int)=(p:Int):=by omega
    have hp9:p≤1000000000:=by have:=HL.out;omega
    have hk9:k≤1000000000:=by omega
    by_cases hs:n<k+4
    ·have HG:=ac (vy H2.out (a:=some ⟨b,off,none⟩) (L:=L) (c:=2) (p:=p) (n:=4) (by have:=HL.out;omega) (by omega) (by omega) (.inr (.inr (.inl rfl))) true);clear hp;go_wp2_with (go_at_call 79;apply ap);refine on ?_;refine HG.out.mono ?_;rintro e w3 ⟨rfl,h3⟩;have H3:=ac h3;clear h3;go_wp2_with fail
     go_ret3
     exact⟨_,0,2,rfl,by rw[HZ.out];simp only;rw[if_pos hs];exact⟨rfl,rfl,rfl,by decide,H3.out.right⟩⟩
    ·have hbl:=HLEN.out;have G:=rF (bs:=XY::YY::r) (v:= .slice (some ⟨b,off,none⟩) L 2) H2.out (by rw[hbl];exact HV.out.more _) (p:=p) (n:=4) (by rw[hbl];have:=HL.out;omega) (by rw[hbl];omega) (.inr (.inr (.inl rfl))) true;have eN:lW true (((XY::YY::r).drop p).take 4)=cI ((r.drop k).take 4):=by
      rw[← hp,lJ 2 k];rfl
     rw[eN] at G;have hlt:cI ((r.drop k).take 4)<4294967296:=by
      have h1:=rE ((r.drop k).take 4);rw[aL,a8,HN.out,j9 (by omega)] at h1;exact h1
     have hadl:=na o;obtain⟨sm,hsm⟩:∃ sm,cI ((r.drop k).take 4)=sm:=⟨_,rfl⟩;rw[hsm] at G hlt;have HG:=ac G;have HSM:=ac hsm;clear G hsm hp hbl eN;go_wp2_with (go_at_call 79;apply ap);refine on ?_;refine HG.out.mono ?_;rintro e w3 ⟨rfl,h3⟩;have HS:=ac (rI h3 Stb.of_own);clear h3;obtain⟨ad,had⟩:∃ ad,eV o=ad:=⟨_,rfl⟩;rw[had] at HS hadl;have HAD:=ac had;clear had
     by_cases he:sm=ad
     ·have heI:((sm:Int) != (ad:Int))=false:=by simp;omega
      go_wp2_with (go_at_call 90;apply ap);refine on ?_;refine HS.out.mono ?_;rintro e w4 ⟨rfl,h4⟩;have H4:=ac h4;have HE:=ac he;clear h4 he;go_wp2_with fail
      go_ret3
      refine⟨_,k+6,0,rfl,?_⟩;rw[HZ.out];simp only;rw[if_neg hs,if_neg (by rw[HSM.out,HAD.out];exact fun h=>h HE.out)];exact⟨rfl,rfl,H4.out⟩
     ·have heI:((sm:Int) != (ad:Int))=true:=by simp;omega
      go_wp2_with (go_at_call 90;apply ap);refine on ?_;refine HS.out.mono ?_;rintro e w4 ⟨rfl,h4⟩;have H4:=ac h4;have HE:=ac he;clear h4 he;go_wp2_with fail
      go_ret3
      refine⟨_,0,4,rfl,?_⟩;rw[HZ.out];simp only;rw[if_neg hs,if_pos (by rw[HSM.out,HAD.out];exact HE.out)];exact⟨rfl,rfl,rfl,by decide,H4.out.right⟩
  ·have hLn:L-2=n:=by have:=HL.out;omega
   go_wp2_with (go_at_call 120;apply ap);refine on ?_;refine(HI.out _ H'.out _ (fun W hW=>HDROP.out W hW)).mono ?_;rintro e w2 ⟨v2,n2,x2,rfl,h2⟩;have hzr:mI r (M:Int)=match fY r (M:Int) with
     | .inl e=> .inl e
     | .inr (o,n)=>if r.length<n+4 then .inl 2 else if cI ((r.drop n).take 4)≠eV o then .inl 4 else .inr (o,n+6):=rfl
   cases hI:fY r (M:Int) with
   | inl ee=>
    rw[hI] at h2 hzr;obtain⟨rfl,rfl,rfl,hne,h2⟩:=h2;have hneI:((x2:Int) != 0)=true:=by simp;omega
    have H2:=ac h2;have HZ:=ac hzr;have HNE:=ac hne;clear h2 hzr hI hne;go_wp2_with fail
    go_ret3
    exact⟨_,0,x2,rfl,by rw[HZ.out];exact⟨rfl,rfl,rfl,HNE.out,H2.out⟩⟩
   | inr z=>
    obtain⟨o,k⟩:=z;rw[hI] at h2 hzr;obtain⟨hk1,hk2⟩:=zc hI;obtain⟨hn2k,rfl,h2⟩:=h2;rw[hn2k];clear hn2k n2;rw[HN.out] at hk1 hzr;have hon:=h2.reads.len_le;obtain⟨a2,c2,rfl⟩:=h2.reads.sub;have H2:=ac h2;have HZ:=ac hzr;clear h2 hzr hI hon;obtain⟨p,hp⟩:∃ p,2+k=p:=⟨_,rfl⟩;have hpI:(2:Int)+(k:Int)=(p:Int):=by omega
    have hp9:p≤1000000000:=by have:=HL.out;omega
    have hk9:k≤1000000000:=by omega
    by_cases hs:n<k+4
    ·have HG:=ac (vy H2.out (a:=some ⟨b,off,none⟩) (L:=L) (c:=cb) (p:=p) (n:=4) (by have:=HL.out;omega) (by omega) (by omega) (.inr (.inr (.inl rfl))) true);clear hp;go_wp2_with (go_at_call 79;apply ap);refine on ?_;refine HG.out.mono ?_;rintro e w3 ⟨rfl,h3⟩;have H3:=ac h3;clear h3;go_wp2_with fail
     go_ret3
     exact⟨_,0,2,rfl,by rw[HZ.out];simp only;rw[if_pos hs];exact⟨rfl,rfl,rfl,by decide,H3.out.right⟩⟩
    ·have hbl:=HLEN.out;have G:=rF (bs:=XY::YY::r) (v:= .slice (some ⟨b,off,none⟩) L cb) H2.out (by rw[hbl];exact HV.out.more _) (p:=p) (n:=4) (by rw[hbl];have:=HL.out;omega) (by rw[hbl];omega) (.inr (.inr (.inl rfl))) true;have eN:lW true (((XY::YY::r).drop p).take 4)=cI ((r.drop k).take 4):=by
      rw[← hp,lJ 2 k];rfl
     rw[eN] at G;have hlt:cI ((r.drop k).take 4)<4294967296:=by
      have h1:=rE ((r.drop k).take 4);rw[aL,a8,HN.out,j9 (by omega)] at h1;exact h1
     have hadl:=na o;obtain⟨sm,hsm⟩:∃ sm,cI ((r.drop k).take 4)=sm:=⟨_,rfl⟩;rw[hsm] at G hlt;have HG:=ac G;have HSM:=ac hsm;clear G hsm hp hbl eN;go_wp2_with (go_at_call 79;apply ap);refine on ?_;refine HG.out.mono ?_;rintro e w3 ⟨rfl,h3⟩;have HS:=ac (rI h3 Stb.of_own);clear h3;obtain⟨ad,had⟩:∃ ad,eV o=ad:=⟨_,rfl⟩;rw[had] at HS hadl;have HAD:=ac had;clear had
     by_cases he:sm=ad
     ·have heI:((sm:Int) != (ad:Int))=false:=by simp;omega
      go_wp2_with (go_at_call 90;apply ap);refine on ?_;refine HS.out.mono ?_;rintro e w4 ⟨rfl,h4⟩;have H4:=ac h4;have HE:=ac he;clear h4 he;go_wp2_with fail
      go_ret3
      refine⟨_,k+6,0,rfl,?_⟩;rw[HZ.out];simp only;rw[if_neg hs,if_neg (by rw[HSM.out,HAD.out];exact fun h=>h HE.out)];exact⟨rfl,rfl,H4.out⟩
     ·have heI:((sm:Int) != (ad:Int))=true:=by simp;omega
      go_wp2_with (go_at_call 90;apply ap);refine on ?_;refine HS.out.mono ?_;rintro e w4 ⟨rfl,h4⟩;have H4:=ac h4;have HE:=ac he;clear h4 he;go_wp2_with fail
      go_ret3
      refine⟨_,0,4,rfl,?_⟩;rw[HZ.out];simp only;rw[if_neg hs,if_pos (by rw[HSM.out,HAD.out];exact HE.out)];exact⟨rfl,rfl,rfl,by decide,H4.out.right⟩
theorem z6 {w0 w:World} {F:SProp} (h:St w0 w F) {R:List (Value × List UInt8)} {v:Value} (hv:Stb w0 F (fun w=>Reads w 1 v R.length (R.map Prod.fst))) (hr:Stb w0 F (fun w=>∀ x∈R,Reads w 1 x.1 x.2.length (x.2.map bv))) (hN:R.length≤1000000) (hL:(aK (R.map Prod.snd)).length≤1000000) (o:Opt) (hs:o.scheme=8∨o.scheme=32946) {hw:Nat} (hh:o.how=hw) (hh2:hw≤2) (p:Array Value):
  Calls Tryz.prog 18 #[v,.agg p,o.v] w fun e w'=>∃ v' x z,e= .returned (.tuple #[v',.int .i64 0])∧DefS (aK (R.map Prod.snd)) hw x∧x.length≤100000000∧z=(120:UInt8)::1::(az true x++ej true (eV (aK (R.map Prod.snd))) 4)∧St w0 w' (own 5 1 v' z.length (z.map bv)*F):=by
 obtain⟨big,large,tiled,ow,oh,planar,scheme,predict,low,two,every,al,fin,how⟩:=o;simp only[Opt.v];simp only at hs hh;subst hh
 rcases hs with rfl | rfl
 ·have h3:=fD h (.cells p 24) (.cells #[.bool big,.bool large,.bool tiled,.int .i64 ow,.int .i64 oh,.bool planar,.int .i64 8,.bool predict,.bool low,.bool two,.int .i64 every,.bool al,.bool fin,.int .i64 (hw:Int)] 28);have f6:=h3.cell 6 rfl;have f13:=h3.cell 13 rfl;obtain⟨J,hJ⟩:∃ J,aK (R.map Prod.snd)=J:=⟨_,rfl⟩;have HJ:=ac (fun(A B:SProp) w (h:St w0 w (A*(B*F)))=>pz (w:=w) h ((hv.more _).more _) ((hr.more _).more _) hN (by omega));rw[hJ] at HJ hL ⊢;have H3:=ac h3;clear hJ h hv hr h3;go_enter Tryz.func18,Tryz.ntmps18;go_upto_region 14 with (fail)
  clear f6;have f13:World.cell? _ ⟨w.heap.size+1,13,none⟩=some (.int .i64 (hw:Int)):=f13;generalize (w.alloc _).alloc _=wz at*
  generalize w.heap.size=gp at*
  refine wp_region_noPanic ?_;refine io (S:=fun w':World=>w'.cell? ⟨gp+1,13,none⟩=some (.int .i64 (hw:Int))) (k:=4) (by kernel_rfl) ?_;have hS:(fun w':World=>w'.cell? ⟨gp+1,13,none⟩=some (.int .i64 (hw:Int))) wz:=f13;refine ay 0 rfl (by kernel_rfl) rfl (fun _ _ _ h=>h) (by assumption) ⟨?_,fun w=> ?_,?_⟩;rotate_left
  ·(go_simp;try with_reducible rfl)
  simp only[Act.put,sA,sZ,sS];refine ay 2 rfl (by kernel_rfl) rfl (fun _ _ _ h=>h) (by assumption) ⟨?_,fun w=> ?_,?_⟩;rotate_left
  ·(go_simp;try with_reducible rfl)
  simp only[Act.put,sA,sZ,sS];refine dG 3 rfl (by kernel_rfl) rfl (fun _ _ _ h=>h) (by assumption) ⟨?_,fun w hSw=> ?_,?_⟩;rotate_left
  ·((try dsimp only at hSw);go_simp;try with_reducible rfl)
  simp only[Act.put,sA,sZ,sS];refine bq (i:=1) (by kernel_rfl) ?_;refine wpOp_step (by rfl) fun K hK=> ?_
  go_simp;refine(HJ.out _ _ _ H3.out.drew).mono ?_;rintro e w2 ⟨v2,rfl,h2⟩;have hS2:(fun w':World=>w'.cell? ⟨gp+1,13,none⟩=some (.int .i64 (hw:Int))) w2:=h2.right.cell 13 rfl;refine hK _ _ ⟨fun e=>hS2,?_⟩;clear hK K hS;have hS:=hS2;have HP:=ac (z4 h2 hL (v:=v2) Stb.of_own hh2);refine bq (i:=4) (by kernel_rfl) ?_;refine wpOp_step (by rfl) fun K hK=> ?_
  go_simp;refine HP.out.mono ?_;rintro e w3 ⟨v3,x,z,rfl,hx,hxl,hz,h4⟩;have hS3:(fun w':World=>w'.cell? ⟨gp+1,13,none⟩=some (.int .i64 (hw:Int))) w3:=h4.right.right.cell 13 rfl;refine hK _ _ ⟨fun e=>hS3,?_⟩;clear hK K hS hS2;have hS:=hS3;refine ay 5 rfl (by kernel_rfl) rfl (fun _ _ _ h=>h) (by assumption) ⟨?_,fun w=> ?_,?_⟩;rotate_left
  ·(go_simp;try with_reducible rfl)
  simp only[Act.put,sA,sZ,sS];refine ay 6 rfl (by kernel_rfl) rfl (fun _ _ _ h=>h) (by assumption) ⟨?_,fun w=> ?_,?_⟩;rotate_left
  ·(go_simp;try with_reducible rfl)
  simp only[Act.put,sA,sZ,sS];refine ay 7 rfl (by kernel_rfl) rfl (fun _ _ _ h=>h) (by assumption) ⟨?_,fun w=> ?_,?_⟩;rotate_left
  ·(go_simp;try with_reducible rfl)
  simp only[Act.put,sA,sZ,sS];refine ay 8 rfl (by kernel_rfl) rfl (fun _ _ _ h=>h) (by assumption) ⟨?_,fun w=> ?_,?_⟩;rotate_left
  ·(go_simp;try with_reducible rfl)
  simp only[Act.put,sA,sZ,sS];refine⟨by kernel_rfl,NoPanic.normal ?_⟩;have H4:=ac (((h4.perm (ak _ _ _)).right.perm (ak _ _ _)).right.perm (ak _ _ _)).right;clear h4 hS hS3;go_wp2_with fail;go_ret2;exact⟨_,x,z,rfl,hx,hxl,hz,H4.out⟩
 ·have h3:=fD h (.cells p 24) (.cells #[.bool big,.bool large,.bool tiled,.int .i64 ow,.int .i64 oh,.bool planar,.int .i64 32946,.bool predict,.bool low,.bool two,.int .i64 every,.bool al,.bool fin,.int .i64 (hw:Int)] 28);have f6:=h3.cell 6 rfl;have f13:=h3.cell 13 rfl;obtain⟨J,hJ⟩:∃ J,aK (R.map Prod.snd)=J:=⟨_,rfl⟩;have HJ:=ac (fun(A B:SProp) w (h:St w0 w (A*(B*F)))=>pz (w:=w) h ((hv.more _).more _) ((hr.more _).more _) hN (by omega));rw[hJ] at HJ hL ⊢;have H3:=ac h3;clear hJ h hv hr h3;go_enter Tryz.func18,Tryz.ntmps18;go_upto_region 14 with (fail)
  clear f6;have f13:World.cell? _ ⟨w.heap.size+1,13,none⟩=some (.int .i64 (hw:Int)):=f13;generalize (w.alloc _).alloc _=wz at*
  generalize w.heap.size=gp at*
  refine wp_region_noPanic ?_;refine io (S:=fun w':World=>w'.cell? ⟨gp+1,13,none⟩=some (.int .i64 (hw:Int))) (k:=4) (by kernel_rfl) ?_;have hS:(fun w':World=>w'.cell? ⟨gp+1,13,none⟩=some (.int .i64 (hw:Int))) wz:=f13;refine ay 0 rfl (by kernel_rfl) rfl (fun _ _ _ h=>h) (by assumption) ⟨?_,fun w=> ?_,?_⟩;rotate_left
  ·(go_simp;try with_reducible rfl)
  simp only[Act.put,sA,sZ,sS];refine ay 2 rfl (by kernel_rfl) rfl (fun _ _ _ h=>h) (by assumption) ⟨?_,fun w=> ?_,?_⟩;rotate_left
  ·(go_simp;try with_reducible rfl)
  simp only[Act.put,sA,sZ,sS];refine dG 3 rfl (by kernel_rfl) rfl (fun _ _ _ h=>h) (by assumption) ⟨?_,fun w hSw=> ?_,?_⟩;rotate_left
  ·((try dsimp only at hSw);go_simp;try with_reducible rfl)
  simp only[Act.put,sA,sZ,sS];refine bq (i:=1) (by kernel_rfl) ?_;refine wpOp_step (by rfl) fun K hK=> ?_
  go_simp;refine(HJ.out _ _ _ H3.out.drew).mono ?_;rintro e w2 ⟨v2,rfl,h2⟩;have hS2:(fun w':World=>w'.cell? ⟨gp+1,13,none⟩=some (.int .i64 (hw:Int))) w2:=h2.right.cell 13 rfl;refine hK _ _ ⟨fun e=>hS2,?_⟩;clear hK K hS;have hS:=hS2;have HP:=ac (z4 h2 hL (v:=v2) Stb.of_own hh2);refine bq (i:=4) (by kernel_rfl) ?_;refine wpOp_step (by rfl) fun K hK=> ?_
  go_simp;refine HP.out.mono ?_;rintro e w3 ⟨v3,x,z,rfl,hx,hxl,hz,h4⟩;have hS3:(fun w':World=>w'.cell? ⟨gp+1,13,none⟩=some (.int .i64 (hw:Int))) w3:=h4.right.right.cell 13 rfl;refine hK _ _ ⟨fun e=>hS3,?_⟩;clear hK K hS hS2;have hS:=hS3;refine ay 5 rfl (by kernel_rfl) rfl (fun _ _ _ h=>h) (by assumption) ⟨?_,fun w=> ?_,?_⟩;rotate_left
  ·(go_simp;try with_reducible rfl)
  simp only[Act.put,sA,sZ,sS];refine ay 6 rfl (by kernel_rfl) rfl (fun _ _ _ h=>h) (by assumption) ⟨?_,fun w=> ?_,?_⟩;rotate_left
  ·(go_simp;try with_reducible rfl)
  simp only[Act.put,sA,sZ,sS];refine ay 7 rfl (by kernel_rfl) rfl (fun _ _ _ h=>h) (by assumption) ⟨?_,fun w=> ?_,?_⟩;rotate_left
  ·(go_simp;try with_reducible rfl)
  simp only[Act.put,sA,sZ,sS];refine ay 8 rfl (by kernel_rfl) rfl (fun _ _ _ h=>h) (by assumption) ⟨?_,fun w=> ?_,?_⟩;rotate_left
  ·(go_simp;try with_reducible rfl)
  simp only[Act.put,sA,sZ,sS];refine⟨by kernel_rfl,NoPanic.normal ?_⟩;have H4:=ac (((h4.perm (ak _ _ _)).right.perm (ak _ _ _)).right.perm (ak _ _ _)).right;clear h4 hS hS3;go_wp2_with fail;go_ret2;exact⟨_,x,z,rfl,hx,hxl,hz,H4.out⟩
theorem JD (c:UInt8) (l:List UInt8):cI (c::l)=c.toNat*256^l.length+cI l:=by
 have key:∀ r:List UInt8,cI (c::r.reverse)=c.toNat*256^r.length+cI r.reverse:=by
  intro r
  induction r with
  | nil=>simp [cI]
  | cons d r ih=>
   rw[oD,← dV,oZ,ih,oZ,aO,dM,kF,iL,da]
 have:=key l.reverse;rwa [ut,oF] at this
theorem z7 (v:Nat):∀ n,cI (dy v n).reverse=v%256^n:=by
 intro n
 induction n with
 | zero=>simp [dy,cI,At]
 | succ n ih=>
  rw[dy,Au];show cI (UInt8.ofNat (v/256^n%256)::(dy v n).reverse)=_;rw[JD,ih,oF,pe,UInt8.toNat_ofNat',show v/256^n%256%2^8=v/256^n%256 by omega,dM,Nat.mod_mul,iM,lJ]
theorem z8 {v n:Nat} (h:v<256^n):cI (ej true v n)=v:=by
 rw[ej,cond,z7,qZ h]
def oA (x:List Nat) (S:List UInt8):List UInt8:=(120:UInt8)::1::(az true x++S)
theorem JE (x:List Nat) (S:List UInt8):(oA x S).length=(az true x).length+S.length+2:=by simp [oA]
theorem JF (r:List UInt8) {most:Int} (h:¬ most<0):j6 (120::1::r) most=mI r most:=by
 show(if most<0 then _ else if oz 120 1 then _ else _)=_;rw[if_neg h,if_neg (by decide)]
theorem JG {b:List UInt8} {x:List Nat} {n:Nat} (h:DoneS b x n) {S:List UInt8} (hS:S.length=4) (ex:List UInt8) (most:Int):
  j6 (oA x S++ex) most=if most<0 then .inl 1 else if most.toNat<b.length then .inl 8 else if cI S≠eV b then .inl 4 else .inr (b,(oA x S).length):=by
 by_cases h0:most<0
 ·rw[if_pos h0];show(if most<0 then _ else _)=_;rw[if_pos h0]
 rw[if_neg h0];show j6 (120::1::((az true x++S)++ex)) most=_;rw[JF _ h0,mI,List.append_assoc,h.infl,if_neg h0]
 by_cases h1:most.toNat<b.length
 ·rw[if_pos h1,if_pos h1]
 ·rw[if_neg h1,if_neg h1];simp only;rw[if_neg (by simp [hS] <;> omega),lO,show(S++ex).take 4=S by rw[← hS,lH],JE,hS]
theorem JH {v n:Nat} (big:Bool) (h:v<256^n):lW big (ej big v n)=v:=by
 cases big
 ·have:=z7 v n;rw[qZ h] at this;exact this
 ·exact z8 h
theorem JI {wide:Nat} {big:Bool} {row:List Nat} {t:List UInt8} {i x:Nat} (hx:row[i]? =some x):((fT wide big row++t).drop (i*(wide/8))).take (wide/8)=ej big x (wide/8):=by
 have hi:i<row.length:=by
  rcases bV i row.length with h | h
  ·exact h
  ·rw[bh h] at hx;cases hx
 have e1:fT wide big row=fT wide big (row.take i)++(ej big x (wide/8)++fT wide big (row.drop (i+1))):=by
  have e:row=row.take i++(x::row.drop (i+1)):=by
   have h2:=(ez i row).symm;rw[dX hi] at h2;rw[au hi] at hx;cases hx;exact h2
  conv=>lhs;rw[e]
  simp [fT,kb]
 have hl:(fT wide big (row.take i)).length=i*(wide/8):=by rw[r7,aL];congr 1;omega
 rw[e1,List.append_assoc,uy hl,List.append_assoc,mW (kX big x (wide/8))]
theorem JJ {wide:Nat} {row:List Nat} {i x:Nat} (hx:row[i]? =some x):dO wide row=dO wide (row.take i)++(bx false x wide++dO wide (row.drop (i+1))):=by
 have hi:i<row.length:=by
  rcases bV i row.length with h | h
  ·exact h
  ·rw[bh h] at hx;cases hx
 have e:row=row.take i++(x::row.drop (i+1)):=by
  have h2:=(ez i row).symm;rw[dX hi] at h2;rw[au hi] at hx;cases hx;exact h2
 conv=>lhs;rw[e]
 simp [dO,kb]
theorem z9 (wide:Nat) (row:List Nat):Bit (dO wide row):=by
 intro b hb;obtain⟨x,_,h⟩:=jH.1 hb;exact BZ _ _ _ b h
theorem JK {wide:Nat} {row:List Nat} {i x:Nat} (hx:row[i]? =some x) (hw:x<2^wide):bL (az false (dO wide row)) false (i*wide) wide=x:=by
 have hi:i<row.length:=by
  rcases bV i row.length with h | h
  ·exact h
  ·rw[bh h] at hx;cases hx
 have hl:(dO wide (row.take i)).length=i*wide:=by rw[ni,aL];congr 1;omega
 have hlw:(bx false x wide).length=wide:=eW _ _ _;refine rQ false x wide hw _ fun j hj=> ?_
 have hs:=JJ (wide:=wide) hx;have hb:=z9 wide row;rw[vO false hb _ (by
  have:(dO wide row).length=row.length*wide:=ni _ _;have h2:i*wide+wide≤row.length*wide:=by rw[← dF];exact ef _ hi
  omega),hs]
 simp only[List.getD_eq_getElem?_getD];rw[ck (by omega),bK (by omega)]
 congr 2;omega
theorem Aa {row:List Nat} {n k x:Nat} (hx:row[k]? =some x) (hn:row.length=n):((row.take k++List.replicate (n-k) 0).map uv).set k (uv x)=(row.take (k+1)++List.replicate (n-(k+1)) 0).map uv:=by
 have hk:k<row.length:=by
  rcases bV k row.length with h | h
  ·exact h
  ·rw[bh h] at hx;cases hx
 have hl:(row.take k).length=k:=by rw[aL];omega
 rw[← ew]
 congr 1
 rw[kJ _ _ (by omega),hl,b8,show n-k=(n-(k+1))+1 by omega,gU,eH,jq hx,List.append_assoc];rfl
theorem JL {w:World} {b off n c:Nat} {bs:List UInt8} (h:Reads w 1 (.slice (some ⟨b,off,none⟩) n c) n (bs.map bv)) {k:Nat} (hk:k≤n):Reads w 1 (.slice (some ⟨b,off,none⟩) k c) k ((bs.take k).map bv):=by
 have:=kg h (Nat.zero_le k) hk;rw[mV,← jI] at this;have e2:(⟨b,off,none⟩:Addr).add 0=⟨b,off,none⟩:=by simp [Addr.add]
 rw[e2] at this;simpa only[rc] using this
theorem JM {w:World} {a:Option Addr} {n c:Nat} {xs:List Value} (h:Reads w 1 (.slice a n c) n xs):Reads w 1 (.slice a 0 c) 0 []:=by
 obtain⟨hl,⟨e1,e2⟩ | ⟨x,cap,e1,h1,h2,h3⟩⟩:=h
 ·cases e1;exact m9 _ _
 ·cases e1;exact⟨rfl,.inr ⟨x,c,rfl,Nat.zero_le _,h2,fun j u hu=>by simp at hu⟩⟩
theorem JN {w0 w:World} {F:SProp} (h:St w0 w F) {row:List Nat} {t:List UInt8} {v:Value} {wide nb:Nat} {big:Bool} (hv:Stb w0 F (fun w=>Reads w 1 v (bX wide big row++t).length ((bX wide big row++t).map bv))) (hl:row.length≤4194304) (hl2:(bX wide big row++t).length≤1000000000) (hall:∀ x∈row,x<2^wide) (hw:wide=16∨wide=32) (hnb:(wide:Int)/8=nb):
  Calls Tryz.prog 35 #[v,.int .i64 (row.length:Int),.int .i64 (wide:Int),.bool big] w fun e w'=>∃ v',e= .returned (.tuple #[v',.int .i64 0])∧St w0 w' (own 48 1 v' row.length (row.map uv)*F):=by
 have hW:e9 wide=true:=by simpa [e9] using hw
 have hnb2:wide/8=nb:=by omega
 have hok:kW nb:=by rcases hw with rfl | rfl;exact .inr (.inl (by omega));exact .inr (.inr (.inl (by omega)))
 have hnb4:nb≤4:=by omega
 have hnb1:1≤nb:=by omega
 have hpow:256^nb=2^wide:=by rcases hw with rfl | rfl <;> (have:nb=2∨nb=4:=by omega) <;> rcases this with rfl | rfl <;> first | rfl | omega
 have hPL:bX wide big row=fT wide big row:=by rw[bX,if_pos hW]
 have hp32:2^wide≤4294967296:=by rcases hw with rfl | rfl <;> decide
 have hcut:(bX wide big row).length=row.length*nb:=by rw[hPL,r7,hnb2]
 have hszl:(row.length*wide+7)/8=row.length*nb:=by
  rcases hw with rfl | rfl
  ·obtain rfl:nb=2:=by omega
   omega
  ·obtain rfl:nb=4:=by omega
   omega
 have HSZ:=ac (fun w=>nm (w:=w) hl (wide:=wide) (by omega) (by omega));rw[hszl] at HSZ;have HWH:=ac (fun w=>pt (w:=w) (wide:=wide));rw[hW] at HWH;have HGET:=ac (fun(G:SProp) (w:World) (h:St w0 w G) (hv:Stb w0 G (fun w=>Reads w 1 v (bX wide big row++t).length ((bX wide big row++t).map bv))) (k x:Nat) (hx:row[k]? =some x)=>by
  have hk:k<row.length:=by
   rcases bV k row.length with h | h
   ·exact h
   ·rw[bh h] at hx;cases hx
  have hle:k*nb+nb≤row.length*nb:=by rw[← dF];exact ef _ hk
  have C:=rF h hv (p:=k*nb) (n:=nb) (by rw[ae,hcut];omega) hl2 hok big;have e:lW big (((bX wide big row++t).drop (k*nb)).take nb)=x:=by
   rw[hPL,← hnb2,JI hx,JH big (by rw[hnb2,hpow];exact hall x (aI hx))]
  rw[e] at C;exact C)
 have HLT:=ac (fun k x (hx:row[k]? =some x)=>qX (hall x (aI hx)) hp32);obtain⟨T0,hT0⟩:∃ T0,bX wide big row++t=T0:=⟨_,rfl⟩;have hT0l:row.length*nb≤T0.length:=by rw[← hT0,ae,hcut];omega
 rw[hT0] at hv hl2 HGET;obtain⟨nl,hnl⟩:∃ nl,row.length=nl:=⟨_,rfl⟩;have HNL:=ac hnl;have HSET:=ac (fun k x (hx:row[k]? =some x)=>Aa hx hnl);rw[hnl] at hl HSZ hT0l ⊢;obtain⟨tl,htl⟩:∃ tl,T0.length=tl:=⟨_,rfl⟩;rw[htl] at hv hl2 HGET hT0l;obtain⟨sz,hsz⟩:∃ sz,nl*nb=sz:=⟨_,rfl⟩;rw[hsz] at HSZ hT0l;obtain⟨a0,c0,rfl⟩:=(hv w h).sub;have HV:=ac hv;have H:=ac h;have hszt:¬ (tl:Int)<sz:=by omega
 have HW:=ac hnb2;have HW2:=ac hw;clear hv h hpow hPL hok hW hw hall hcut hszl hT0 hnl htl hsz;have T:=l8;go_enter Tryz.func35,Tryz.ntmps35;go_wp2_with (first | (go_at_call 33;refine(HSZ.out _).mono ?_;rintro e w1 ⟨rfl,rfl⟩) | (go_at_call 78;refine(HWH.out _).mono ?_;rintro e w1 ⟨rfl,rfl⟩) | (at_make;apply ap));refine on (gV T rfl _ _ rfl nl rfl rfl rfl rfl H.out (by unfold maxLen;omega) (by omega) ?_);intro v' w1 h1;obtain⟨a',cap',rfl⟩:=h1.reads.sub;have H1:=ac h1;clear h1;go_wp2_with (first | (go_at_call 78;refine(HWH.out _).mono ?_;rintro e w1 ⟨rfl,rfl⟩))
 go_loopw [41] (fun vi wr=>∃ k:Nat,k≤nl∧vi= .int .i64 k∧St w0 wr (own 48 1 (.slice a' nl cap') nl ((row.take k++List.replicate (nl-k) 0).map uv)*F)) (fun vi _=>nl-(intOf vi).toNat)
 case atStart=>exact⟨0,Nat.zero_le _,rfl,by
  have e:(madeCells (Value.int .u32 0).cells (nl*1)).toList=((row.take 0)++List.replicate (nl-0) 0).map uv:=by
   rw[gz];simp [Value.cells,toList_madeCells_one,uv]
  rw[← e];exact H1.out⟩
 case round=>
  clear H1 H HSZ HWH;obtain⟨k,hk,rfl,hst⟩:=hrel
  by_cases hkn:k<nl
  ·have hkI:(k:Int)<nl:=by omega
   obtain⟨x,hx⟩:∃ x,row[k]? =some x:=⟨row[k]'(by rw[HNL.out];exact hkn),au _⟩;have hx32:=HLT.out k x hx;obtain⟨g,rfl⟩:=ce hst (by omega);have hfz:=hst.own_free k;have hcc:=hst.own_cell (i:=k) (u:= .int .u32 0) (by
    have hl3:(row.take k).length=k:=by rw[aL,HNL.out];omega
    rw[aC,ck (by omega),dx,if_pos (by omega)];rfl)
   have HG:=ac (HGET.out _ _ hst (HV.out.more _) k x hx);obtain⟨p,hp⟩:∃ p,k*nb=p:=⟨_,rfl⟩;obtain⟨kw,hkw⟩:∃ kw,k*wide=kw:=⟨_,rfl⟩;have hpb:p≤16777216:=by rw[← hp];exact dL (eS (by omega:k≤4194304) hnb4) (by decide)
   have hkwb:kw≤134217728:=by rw[← hkw];exact dL (eS (by omega:k≤4194304) (by rcases HW2.out with h | h <;> omega:wide≤32)) (by decide)
   have hkwI:(k:Int)*(wide:Int)=(kw:Int):=by rw[← hkw];simp
   have hkp:(kw:Int)/8=(p:Int):=by
    have:kw=8*p:=by rw[← hp,← hkw,← HW.out];rcases HW2.out with h | h <;> subst h <;> omega
    omega
   rw[hp] at HG;have HX:=ac hx;have HST:=ac hst;clear hst hx hp hkw;go_wp2_with (go_at_call 79;apply ap);refine on (HG.out.mono ?_);rintro e w2 ⟨rfl,h2⟩;have hfz:=h2.own_free k;have hcc:=h2.own_cell (i:=k) (u:= .int .u32 0) (by
    have hl3:(row.take k).length=k:=by rw[aL,HNL.out];omega
    rw[aC,ck (by omega),dx,if_pos (by omega)];rfl)
   have h3:=h2.own_set k (uv x);rw[HSET.out k x HX.out] at h3;have H3:=ac h3;clear h2 h3 HG HST;go_wp2_with fail;exact⟨⟨k+1,by omega,by go_num,H3.out⟩,by simp [intOf];omega⟩
  ·obtain rfl:k=nl:=by omega
   have hst':=hst;rw[b8,oJ,cy,← HNL.out,cS,HNL.out] at hst';have HST:=ac hst';clear hst hst';go_wp2_with fail;go_ret2;exact⟨_,rfl,HST.out⟩
theorem JO {w0 w:World} {F:SProp} (h:St w0 w F) {row:List Nat} {t:List UInt8} {v:Value} {wide:Nat} {big:Bool} (hv:Stb w0 F (fun w=>Reads w 1 v (bX wide big row++t).length ((bX wide big row++t).map bv))) (hl:row.length≤4194304) (hl2:(bX wide big row++t).length≤1000000000) (hall:∀ x∈row,x<2^wide) (h1:1≤wide) (h2:wide≤32) (hW:e9 wide=false):
  Calls Tryz.prog 35 #[v,.int .i64 (row.length:Int),.int .i64 (wide:Int),.bool big] w fun e w'=>∃ v',e= .returned (.tuple #[v',.int .i64 0])∧St w0 w' (own 48 1 v' row.length (row.map uv)*F):=by
 have hPL:bX wide big row=az false (dO wide row):=by rw[bX,if_neg (by simp [hW])]
 have hcut:(bX wide big row).length=(row.length*wide+7)/8:=r8 _ _;have HSZ:=ac (fun w=>nm (w:=w) hl (wide:=wide) h1 h2);have HWH:=ac (fun w=>pt (w:=w) (wide:=wide));rw[hW] at HWH;have hPK:∀ k x,row[k]? =some x→bL (bX wide big row) false (k*wide) wide=x:=fun k x hx=>by
  rw[hPL];exact JK hx (hall x (aI hx))
 have HPK:=ac hPK;obtain⟨P,hP⟩:∃ P,bX wide big row=P:=⟨_,rfl⟩;rw[hP] at hcut hv hl2 HPK;obtain⟨sz,hsz⟩:∃ sz,P.length=sz:=⟨_,rfl⟩;have HRD:=ac (fun(w:World) (h:St w0 w F)=>show ∃ a c,v= .slice a (P++t).length c∧Reads w 1 (.slice a sz c) sz (P.map bv) by
  have h1:=hv w h;obtain⟨a,c,rfl⟩:=h1.sub;refine⟨a,c,rfl,?_⟩
  by_cases hp0:0<(P++t).length
  ·obtain⟨b,off,e,_⟩:=h1.at_ hp0;cases e;have:=JL h1 (k:=sz) (by rw[ae];omega);rwa [mW hsz] at this
  ·have e1:P=[]:=bG (by rw[ae] at hp0;omega);subst e1;obtain rfl:sz=0:=by rw[← hsz];rfl
   exact JM h1)
 obtain⟨nl,hnl⟩:∃ nl,row.length=nl:=⟨_,rfl⟩;have HNL:=ac hnl;have HSET:=ac (fun k x (hx:row[k]? =some x)=>Aa hx hnl);have HCUT:=ac hcut;rw[hnl] at hl HSZ hcut ⊢;obtain⟨tl,htl⟩:∃ tl,(P++t).length=tl:=⟨_,rfl⟩;have hT0l:sz≤tl:=by rw[← htl,ae];omega
 rw[htl] at hv hl2 HRD;rw[← hcut,hsz] at HSZ;obtain⟨a0,c0,rfl⟩:=(hv w h).sub;have HRD:=ac (fun(w:World) (h:St w0 w F)=>show Reads w 1 (.slice a0 sz c0) sz (P.map bv) by
  obtain⟨a,c,e,hr⟩:=HRD.out w h;cases e;exact hr)
 have hcap:=(iq (hv w h)).1;have hszc:(sz:Int)≤c0:=by omega
 have H:=ac h;have HSZL:=ac hsz;have hszt:¬ (tl:Int)<sz:=by omega
 clear hv h hPL hW hall hPK hP hnl htl hsz hcut;have T:=l8;go_enter Tryz.func35,Tryz.ntmps35;go_wp2_with (first | (go_at_call 33;refine(HSZ.out _).mono ?_;rintro e w1 ⟨rfl,rfl⟩) | (go_at_call 78;refine(HWH.out _).mono ?_;rintro e w1 ⟨rfl,rfl⟩) | (at_make;apply ap));refine on (gV T rfl _ _ rfl nl rfl rfl rfl rfl H.out (by unfold maxLen;omega) (by omega) ?_);intro v' w1 h1;obtain⟨a',cap',rfl⟩:=h1.reads.sub;have HNR:=ac (lV (bs:=P) (v:= .slice a0 sz c0) (low:=false) h1 (fun w h=>by rw[HSZL.out];exact HRD.out w h.right) (by rw[HSZL.out];omega));have H1:=ac h1;clear h1;go_wp2_with (first | (go_at_call 78;refine(HWH.out _).mono ?_;rintro e w1 ⟨rfl,rfl⟩) | (go_at_call 80;apply ap));refine on (HNR.out.mono ?_);rintro e w2 ⟨B,rfl,h2⟩;have H2:=ac (h2.perm (ak _ _ _));clear h2 HNR H1;go_wp2_with fail
 go_loopw [73] (fun vi wr=>∃ k:Nat,k≤nl∧vi= .int .i64 k∧St w0 wr (own 48 1 (.slice a' nl cap') nl ((row.take k++List.replicate (nl-k) 0).map uv)*(aq B P (k*wide) false*F))) (fun vi _=>nl-(intOf vi).toNat)
 case atStart=>exact⟨0,Nat.zero_le _,rfl,by
  have e:(madeCells (Value.int .u32 0).cells (nl*1)).toList=((row.take 0)++List.replicate (nl-0) 0).map uv:=by
   rw[gz];simp [Value.cells,toList_madeCells_one,uv]
  rw[← e,mQ];exact H2.out⟩
 case round=>
  clear H2 H HSZ HWH;obtain⟨k,hk,rfl,hst⟩:=hrel
  by_cases hkn:k<nl
  ·have hkI:(k:Int)<nl:=by omega
   obtain⟨x,hx⟩:∃ x,row[k]? =some x:=⟨row[k]'(by rw[HNL.out];exact hkn),au _⟩;obtain⟨g,rfl⟩:=ce hst (by omega);have hle:k*wide+wide≤8*P.length:=by
    have e1:=HCUT.out;rw[HNL.out] at e1;have e2:k*wide+wide≤nl*wide:=by rw[← dF];exact ef _ hkn
    omega
   have C:=iR (hst.perm (ak _ _ _)) wide rfl h2 hle;rw[HPK.out k x hx,← dF] at C;have HG:=ac C;have HX:=ac hx;clear hst hx C hle;go_wp2_with (go_at_call 81;apply ap);refine on (HG.out.mono ?_);rintro e w2 ⟨rfl,h2'⟩;have h2:=h2'.perm (ak _ _ _);have hfz:=h2.own_free k;have hcc:=h2.own_cell (i:=k) (u:= .int .u32 0) (by
    have hl3:(row.take k).length=k:=by rw[aL,HNL.out];omega
    rw[aC,ck (by omega),dx,if_pos (by omega)];rfl)
   have h3:=h2.own_set k (uv x);rw[HSET.out k x HX.out] at h3;have H3:=ac h3;clear h2 h3 HG h2';go_wp2_with fail;exact⟨⟨k+1,by omega,by go_num,H3.out⟩,by simp [intOf];omega⟩
  ·obtain rfl:k=nl:=by omega
   have hst':=hst;rw[b8,oJ,cy,← HNL.out,cS,HNL.out] at hst';have hst':=(hst'.perm (ak _ _ _)).right;have HST:=ac hst';clear hst hst';go_wp2_with fail;go_ret2;exact⟨_,rfl,HST.out⟩
theorem JP {w0 w:World} {F:SProp} (h:St w0 w F) {row:List Nat} {t:List UInt8} {v:Value} {wide:Nat} {big:Bool} (hv:Stb w0 F (fun w=>Reads w 1 v (bX wide big row++t).length ((bX wide big row++t).map bv))) (hl:row.length≤4194304) (hl2:(bX wide big row++t).length≤1000000000) (hall:∀ x∈row,x<2^wide) (h1:1≤wide) (h2:wide≤32):
  Calls Tryz.prog 35 #[v,.int .i64 (row.length:Int),.int .i64 (wide:Int),.bool big] w fun e w'=>∃ v',e= .returned (.tuple #[v',.int .i64 0])∧St w0 w' (own 48 1 v' row.length (row.map uv)*F):=by
 cases hW:e9 wide with
 | true=>exact JN h hv hl hl2 hall (by simpa [e9] using hW) (nb:=wide/8) (by omega)
 | false=>exact JO h hv hl hl2 hall h1 h2 hW
end Go.Proofs.YtboflbdniogcdaaGreatDoor
