/-
  Parts of a proof.
-/
import Derived.Lib.SlBytesConst
import Derived.Test.YtboflbdniogcdaaGreatDoorK43
set_option linter.unusedVariables false
set_option linter.unusedSimpArgs false
set_option maxRecDepth 100000
set_option maxHeartbeats 100000000
namespace Go.Proofs.YtboflbdniogcdaaGreatDoor
open Go.RowKit Go.Mz
theorem Reads.takeS {w:World} {size n cap:Nat} {x:Addr} {xs:List Value} (h:Reads w size (.slice (some x) n cap) n xs) {k:Nat} (hk:k≤n):Reads w size (.slice (some x) k cap) k (xs.take (k*size)):=by
 obtain⟨hl,⟨h0,_⟩ | ⟨x,c,h1,h2,h3,h4⟩⟩:=h
 ·cases h0
 ·cases h1;have:=dW size hk;refine⟨by rw[aJ,hl];omega,.inr ⟨_,_,rfl,by omega,h3,fun j u hu=>h4 j u ?_⟩⟩;rw[jn] at hu
  split at hu
  ·exact hu
  ·cases hu
theorem Reads.dropS {w:World} {size n cap:Nat} {x:Addr} {xs:List Value} (h:Reads w size (.slice (some x) n cap) n xs) {k:Nat} (hk:k≤n):Reads w size (.slice (some (x.add (k*size))) (n-k) (cap-k)) (n-k) (xs.drop (k*size)):=by
 obtain⟨hl,⟨h0,_⟩ | ⟨x,c,h1,h2,h3,h4⟩⟩:=h
 ·cases h0
 ·cases h1;refine⟨by rw[bH,hl,Nat.sub_mul],.inr ⟨_,_,rfl,by omega,by omega,fun j u hu=> ?_⟩⟩;rw[lT] at hu;have:=h4 (k*size+j) u hu;rw[Addr.add_add];exact this
theorem pQ (A B W F:SProp):A*(B*(W*F))=W*(A*(B*F)):=by ac_rfl
theorem yu {w:World} {a:Addr} {n cap size:Nat} {xs:List Value} (h:Reads w size (.slice (some a) n cap) n xs):n≤cap∧cap≤maxLen:=by
 obtain⟨_,⟨e,_⟩ | ⟨x,c,e,h1,h2,_⟩⟩:=h
 ·cases e
 ·cases e;exact⟨h1,h2⟩
theorem Im:∀ (l:List TokD) (k:Nat),(bP l).take (k*3)=bP (l.take k):=by
 intro l
 induction l with
 | nil=>intro k;simp [bP]
 | cons a l ih=>
  intro k;cases k with
  | zero=>simp [bP]
  | succ k=>
   rw[show bP (a::l)=jK a++bP l from rfl,show(k+1)*3=(jK a).length+k*3 by show(k+1)*3=3+k*3;omega,List.take_length_add_append,ih];rfl
theorem In:∀ (l:List TokD) (k:Nat),(bP l).drop (k*3)=bP (l.drop k):=by
 intro l
 induction l with
 | nil=>intro k;simp [bP]
 | cons a l ih=>
  intro k;cases k with
  | zero=>simp [bP]
  | succ k=>
   rw[show bP (a::l)=jK a++bP l from rfl,show(k+1)*3=(jK a).length+k*3 by show(k+1)*3=3+k*3;omega,List.drop_length_add_append,ih];rfl
def yv:Value→Nat
 | .slice _ n _=>n
 | _=>0
theorem yx {k:TokD} (h:fT k):dV FA FB k:=by
 unfold dV
 by_cases h0:k.len=0
 ·rw[if_pos h0];exact ir.la _ (by have:=bh k.lit;omega)
 ·rw[if_neg h0];obtain⟨h1,h2,h3,h4⟩:=h.resolve_left h0;exact⟨ir.la _ (by have:=(ka (n:=k.len.toNat) (by omega) (by omega)).1;omega),ir.lb _ (by have:=(kS (n:=k.dist.toNat) (by omega) (by omega)).1;omega)⟩
theorem yy (W A B F:SProp):W*(A*(B*F))=(A*B)*(W*F):=by ac_rfl
theorem yz (W P Q A B F:SProp):W*(P*(Q*(A*(B*F))))=(P*(Q*(A*B)))*(W*F):=by ac_rfl
theorem yA {w0 w:World} {F:SProp} {B:Nat} (h:St w0 w (az B [] true*F)) {T:List TokD} (hT:T.length≤1000000) (hok:∀ k∈T,fT k) {how:Nat} (hhow:how=1∨how=2)
  {vt:Value} (ht:Stb w0 F (fun w=>Reads w 3 vt T.length (bP T))):
  Calls Tryz.prog 134 #[.pointer (some ⟨B,0,none⟩),vt,.int .i64 (how:Int)] w fun e w'=>∃ x,e= .returned (.int .i64 0)∧ManyB how T x∧x.length≤100000000∧St w0 w' (az B x true*F):=by
 have H:=ac h;have HT:=ac ht;have HOK:=ac hok;clear h ht hok;go_enter Tryz.func134,Tryz.ntmps134;go_wp2_with fail
 go_loopw [1,7,8,9,10,11] (fun v1 v7 v8 v9 v10 v11 wr=>∃ (d:Nat) (acc:List Nat),d≤T.length∧acc.length≤60*d+5000*d/16384∧(d=0∨d<T.length)∧Stb w0 F (fun w=>Reads w 3 v1 (T.drop d).length (bP (T.drop d)))∧(∀ z,ManyB how (T.drop d) z→ManyB how T (acc++z))∧St w0 wr (az B acc true*F)) (fun v1 v7 v8 v9 v10 v11 _=>yv v1)
 case atStart=>exact⟨0,[],by omega,by simp,.inl rfl,HT.out,fun z h=>h,H.out⟩
 case round=>
  clear H HT;obtain⟨d,acc,hd,hacc,hd0,hrd,hmb,hst⟩:=hrel;obtain⟨n,hn⟩:∃ n,(T.drop d).length=n:=⟨_,rfl⟩;rw[hn] at hrd;have hnd:n=T.length-d:=by rw[← hn,bH]
  obtain⟨ax,cx,rfl⟩:=(hrd wr hst.right).sub;have hnil:ax=none→n=0∧cx=0:=fun e=>by
   subst e;obtain⟨_,⟨e,h0⟩ | ⟨x,c,e,_⟩⟩:=hrd wr hst.right
   ·cases e;exact⟨h0,rfl⟩
   ·cases e
  obtain⟨m,hm⟩:∃ m,min n 16384=m:=⟨_,rfl⟩;have hmn:m≤n:=by omega
  have hm1:(if(16384:Int)<(n:Int) then 16384 else(n:Int))=(m:Int):=by split <;> omega
  obtain⟨last,hlast⟩:∃ last,((m:Int)==(n:Int))=last:=⟨_,rfl⟩;obtain⟨Tr,hTr⟩:∃ Tr,T.drop d=Tr:=⟨_,rfl⟩;rw[hTr] at hn hrd hmb;have hokr:∀ k∈Tr,fT k:=fun k hk=>HOK.out k (by rw[← hTr] at hk;exact sX hk)
  have HND:=ac hnd;have HMB:=ac hmb;have HTR:=ac hTr;have HNR:=ac hn;have HM:=ac hm;have HOKR:Hid (∀ k∈Tr.take m,fT k):=ac fun k hk=>hokr k (jo hk)
  have htl:(Tr.take m).length=m:=by rw[aJ,hn];omega
  have hacc2:acc.length≤90000000:=by omega
  have HLL:=ac (⟨htl,hacc,hd0,hd⟩:(Tr.take m).length=m∧acc.length≤60*d+5000*d/16384∧(d=0∨d<T.length)∧d≤T.length);have hn1:n≤1000000:=by omega
  have hm3:m≤16384:=by omega
  have HST:=ac hst;have hww:IntKind.u32.wrap (how:Int)=(how:Int):=IntWalk.u32_in _ (by omega);clear hnd hmb hTr hm hokr htl hacc hd0 hd hn hst
  rcases ax with _ | x -- WALK
  ·obtain⟨rfl,rfl⟩:=hnil rfl;obtain rfl:m=0:=by omega
   obtain rfl:true=last:=hlast;have HS:Hid (Stb w0 F (fun w=>Reads w 3 (.slice none 0 0) 0 (bP (Tr.take 0)))):=ac fun w h=>⟨rfl,.inl ⟨rfl,rfl⟩⟩
   go_upto_region 2 with (fail)
   go_wp2_with (go_at_call 168;apply ag);refine on ?_;refine(pD HST.out _ how (by omega) (by omega)).mono ?_;rintro e w2 ⟨rfl,h2⟩;have H2:=ac h2;clear h2 HST;go_wp2_with (go_at_call 157;apply ag);refine on ?_;refine(wI H2.out).mono ?_;rintro e w3 ⟨va,vb,rfl,h3⟩;have H3:=ac (h3.perm (pQ _ _ _ _));clear h3 H2
   rcases hhow with rfl | rfl
   ·go_upto_region 9 with (fail)
    go_wp2_with (go_at_call 171;apply ag);refine on ?_;have hB:=pF H3.out (by rw[ae,gi];omega) oZ o3 o9 pe (by rw[ji];omega) (by rw[jj];omega) (by rw[ji];omega) (by rw[jj];omega) (T:=Tr.take 0) (by rw[HLL.out.1];omega) HOKR.out (fun k hk=>yx (HOKR.out k hk)) (ir.la 256 (by omega)) (vt:= .slice none 0 0) (va:=va) (vb:=vb) (by rw[HLL.out.1];exact(HS.out.more _).more _) (by rw[ji];exact Stb.of_own) (by rw[jj];exact Stb.of_own.more _);refine hB.mono ?_;rintro e w7 ⟨rfl,h7⟩;have h7:=(h7.perm (yy _ _ _ _)).right;obtain⟨y,hy⟩:∃ y,y=headL true 1++b7 (aB dr) (aB dG) (Tr.take 0):=⟨_,rfl⟩;rw[List.append_assoc,← hy] at h7;have HONE:Hid (OneB 1 true (Tr.take 0) y):=ac (.inl ⟨rfl,hy⟩);have H7:=ac h7;clear hB h7 hy H3;go_wp2_with fail;go_ret;refine⟨acc++y,rfl,HMB.out y (.last (by rw[HNR.out];omega) (by have h:=HONE.out;rwa [show Tr.take 0=Tr from bU (by rw[HNR.out];omega)] at h)),?_,H7.out⟩;have h1:=HONE.out.len HOKR.out;rw[HLL.out.1] at h1;rw[ae];omega
   ·go_upto_region 5 with (fail)
    go_wp2_with (go_at_call 169;apply ag);refine on ?_;refine(ye H3.out (T:=Tr.take 0) (by rw[HLL.out.1];omega) HOKR.out (vt:= .slice none 0 0) (by rw[HLL.out.1];exact((HS.out.more _).more _).more _)).mono ?_;rintro e w4 ⟨va',vb',la,lb,rfl,hla,hlb,h4⟩;obtain⟨oo,us⟩:=py HOKR.out hla hlb;have h4:=h4.perm (pQ _ _ _ _);rw[oo.l1,oo.l2] at h4;have hL:=yp h4 (by rw[ae,gi];omega) oo.l1 oo.l2 oo.a30 oo.b30 (va:=va') (vb:=vb') Stb.of_own (Stb.of_own.more _);have HLT:=ac hL;have HOO:=ac (⟨oo,us,hla,hlb⟩:OwnOk la lb∧(∀ k∈Tr.take 0,dV (aB la) (aB lb) k)∧LimOk (fk (Tr.take 0)) 15 la∧LimOk (eV (Tr.take 0)) 15 lb);clear hL h4 hla hlb oo us H3;go_wp2_with (go_at_call 170;apply ag);refine on ?_;refine HLT.out.mono ?_;rintro e w5 ⟨me,R,rfl,hme,hR,h5⟩;have hmm:=sJ hme fun r hr=>((hR.rn (fun n hn=>(cA.1 hn).elim (HOO.out.1.a30 n) (HOO.out.1.b30 n))).facts r hr).2.2
    have hrl:=((hR.rn (fun n hn=>(cA.1 hn).elim (HOO.out.1.a30 n) (HOO.out.1.b30 n))).le (Nat.zero_le _)).2.2;have hB:=pF h5 (by rw[ae,ae,gi];omega) HOO.out.1.oa HOO.out.1.ob (fun n hn=>by have:=HOO.out.1.a30 n hn;omega) (fun n hn=>by have:=HOO.out.1.b30 n hn;omega) (by rw[HOO.out.1.l1];omega) (by rw[HOO.out.1.l2];omega) (by rw[HOO.out.1.l1];omega) (by rw[HOO.out.1.l2];omega) (T:=Tr.take 0) (by rw[HLL.out.1];omega) HOKR.out HOO.out.2.1 (kT (by rw[HOO.out.1.l1];omega) HOO.out.1.eob) (vt:= .slice none 0 0) (va:=va') (vb:=vb') (by rw[HLL.out.1];exact(((HS.out.more _).more _).more _).more _) (by rw[HOO.out.1.l1];exact Stb.of_own) (by rw[HOO.out.1.l2];exact Stb.of_own.more _);have HBB:=ac hB;have HMR:=ac (⟨hme,hR⟩:MetaOk me R∧RunsBy (la++lb) 0 R 316);clear hB h5 hme hR hmm hrl HLT;go_wp2_with (go_at_call 171;apply ag);refine on ?_;refine HBB.out.mono ?_;rintro e w7 ⟨rfl,h7⟩;have h7:=(h7.perm (yz _ _ _ _ _ _)).right;obtain⟨y,hy⟩:∃ y,y=headL true 2++(jm me R++b7 (aB la) (aB lb) (Tr.take 0)):=⟨_,rfl⟩;rw[List.append_assoc,List.append_assoc,← hy] at h7;have HONE:Hid (OneB 2 true (Tr.take 0) y):=ac (.inr ⟨rfl,la,lb,me,R,HOO.out.2.2.1,HOO.out.2.2.2,HMR.out.1,HMR.out.2,hy⟩);have H7:=ac h7;clear h7 hy HBB;go_wp2_with fail;go_ret;refine⟨acc++y,rfl,HMB.out y (.last (by rw[HNR.out];omega) (by have h:=HONE.out;rwa [show Tr.take 0=Tr from bU (by rw[HNR.out];omega)] at h)),?_,H7.out⟩;have h1:=HONE.out.len HOKR.out;rw[HLL.out.1] at h1;rw[ae];omega
  ·have hcap:=yu (hrd wr HST.out.right);have HS:Hid (Stb w0 F (fun w=>Reads w 3 (.slice (some x) m cx) m (bP (Tr.take m)))):=ac fun w h=>by
    have:=Reads.takeS (hrd w h) hmn;rw[Im] at this;exact this
   have HR:Hid (Stb w0 F (fun w=>Reads w 3 (.slice (some (x.add (m*3))) (n-m) (cx-m)) (n-m) (bP (Tr.drop m)))):=ac fun w h=>by
    have:=Reads.dropS (hrd w h) hmn;rw[In] at this;exact this
   go_upto_region 2 with (fail)
   go_wp2_with (go_at_call 168;apply ag);refine on ?_;refine(pD HST.out _ how (by omega) (by omega)).mono ?_;rintro e w2 ⟨rfl,h2⟩;have H2:=ac h2;clear h2 HST;go_wp2_with (go_at_call 157;apply ag);refine on ?_;refine(wI H2.out).mono ?_;rintro e w3 ⟨va,vb,rfl,h3⟩;have H3:=ac (h3.perm (pQ _ _ _ _));clear h3 H2
   rcases hhow with rfl | rfl
   ·go_upto_region 9 with (fail)
    go_wp2_with (go_at_call 171;apply ag);refine on ?_;have hB:=pF H3.out (by rw[ae,gi];omega) oZ o3 o9 pe (by rw[ji];omega) (by rw[jj];omega) (by rw[ji];omega) (by rw[jj];omega) (T:=Tr.take m) (by rw[HLL.out.1];omega) HOKR.out (fun k hk=>yx (HOKR.out k hk)) (ir.la 256 (by omega)) (vt:= .slice (some x) m cx) (va:=va) (vb:=vb) (by rw[HLL.out.1];exact(HS.out.more _).more _) (by rw[ji];exact Stb.of_own) (by rw[jj];exact Stb.of_own.more _);refine hB.mono ?_;rintro e w7 ⟨rfl,h7⟩;have h7:=(h7.perm (yy _ _ _ _)).right;obtain⟨y,hy⟩:∃ y,y=headL last 1++b7 (aB dr) (aB dG) (Tr.take m):=⟨_,rfl⟩;rw[List.append_assoc,← hy] at h7;have HONE:Hid (OneB 1 last (Tr.take m) y):=ac (.inl ⟨rfl,hy⟩);have H7:=ac h7;clear hB h7 hy H3;cases last with
    | true=>
     obtain rfl:m=n:=by have:=eq_of_beq hlast;omega
     have htt:Tr.take m=Tr:=bU (by rw[HNR.out];omega);rw[htt] at HONE;have HTT:=ac htt;clear htt;go_wp2_with fail
     all_goals
      go_ret
      first
      | refine⟨acc++y,rfl,HMB.out y (.last (by rw[HNR.out];omega) HONE.out),?_,H7.out⟩
      | refine⟨rfl,acc++y,HMB.out y (.last (by rw[HNR.out];omega) HONE.out),?_,H7.out⟩
      have h1:=HONE.out.len (by have h:=HOKR.out;rwa [HTT.out] at h);rw[HNR.out] at h1;rw[ae];omega
    | false=>
     have hlt : m < n := by have:m≠n:=fun e=>by rw[e] at hlast;simp at hlast
                            omega
     have HLT2:=ac hlt;go_wp2_with fail;refine⟨⟨_,_,_,_,_,_,_,_,_,_,_,_,_,_,_,_,_,_,_,_,_,_,_,_,_,_,_,_,_,_,_,_,_,_,_,_,_,_,_,_,_,_,_,_,_,_,_,_,_,_,_,_,_,_,?_,by rfl⟩,by show n-m<n;have:=HLT2.out;have:=HM.out;omega⟩;have hm6:m=16384:=by have:=HM.out;omega
     have hdr:T.drop (d+m)=Tr.drop m:=by rw[← HTR.out,qi]
     have hl2:=HONE.out.len HOKR.out;rw[HLL.out.1] at hl2;have hl3:=HLL.out.2.1;have hdl:(Tr.drop m).length=n-m:=by rw[bH,HNR.out]
     refine⟨d+m,acc++y,by have:=HND.out;omega,by rw[ae];omega,.inr (by have:=HND.out;omega),by rw[hdr,hdl];exact HR.out,fun z hz=> ?_,H7.out⟩;rw[hdr] at hz;rw[List.append_assoc];refine HMB.out _ (.more (by rw[HNR.out];omega) ?_ ?_)
     ·have h:=HONE.out;rwa [hm6] at h
     ·rwa [hm6] at hz
   ·go_upto_region 5 with (fail)
    go_wp2_with (go_at_call 169;apply ag);refine on ?_;refine(ye H3.out (T:=Tr.take m) (by rw[HLL.out.1];omega) HOKR.out (vt:= .slice (some x) m cx) (by rw[HLL.out.1];exact((HS.out.more _).more _).more _)).mono ?_;rintro e w4 ⟨va',vb',la,lb,rfl,hla,hlb,h4⟩;obtain⟨oo,us⟩:=py HOKR.out hla hlb;have h4:=h4.perm (pQ _ _ _ _);rw[oo.l1,oo.l2] at h4;have hL:=yp h4 (by rw[ae,gi];omega) oo.l1 oo.l2 oo.a30 oo.b30 (va:=va') (vb:=vb') Stb.of_own (Stb.of_own.more _);have HLT:=ac hL;have HOO:=ac (⟨oo,us,hla,hlb⟩:OwnOk la lb∧(∀ k∈Tr.take m,dV (aB la) (aB lb) k)∧LimOk (fk (Tr.take m)) 15 la∧LimOk (eV (Tr.take m)) 15 lb);clear hL h4 hla hlb oo us H3;go_wp2_with (go_at_call 170;apply ag);refine on ?_;refine HLT.out.mono ?_;rintro e w5 ⟨me,R,rfl,hme,hR,h5⟩;have hmm:=sJ hme fun r hr=>((hR.rn (fun n hn=>(cA.1 hn).elim (HOO.out.1.a30 n) (HOO.out.1.b30 n))).facts r hr).2.2
    have hrl:=((hR.rn (fun n hn=>(cA.1 hn).elim (HOO.out.1.a30 n) (HOO.out.1.b30 n))).le (Nat.zero_le _)).2.2;have hB:=pF h5 (by rw[ae,ae,gi];omega) HOO.out.1.oa HOO.out.1.ob (fun n hn=>by have:=HOO.out.1.a30 n hn;omega) (fun n hn=>by have:=HOO.out.1.b30 n hn;omega) (by rw[HOO.out.1.l1];omega) (by rw[HOO.out.1.l2];omega) (by rw[HOO.out.1.l1];omega) (by rw[HOO.out.1.l2];omega) (T:=Tr.take m) (by rw[HLL.out.1];omega) HOKR.out HOO.out.2.1 (kT (by rw[HOO.out.1.l1];omega) HOO.out.1.eob) (vt:= .slice (some x) m cx) (va:=va') (vb:=vb') (by rw[HLL.out.1];exact(((HS.out.more _).more _).more _).more _) (by rw[HOO.out.1.l1];exact Stb.of_own) (by rw[HOO.out.1.l2];exact Stb.of_own.more _);have HBB:=ac hB;have HMR:=ac (⟨hme,hR⟩:MetaOk me R∧RunsBy (la++lb) 0 R 316);clear hB h5 hme hR hmm hrl HLT;go_wp2_with (go_at_call 171;apply ag);refine on ?_;refine HBB.out.mono ?_;rintro e w7 ⟨rfl,h7⟩;have h7:=(h7.perm (yz _ _ _ _ _ _)).right;obtain⟨y,hy⟩:∃ y,y=headL last 2++(jm me R++b7 (aB la) (aB lb) (Tr.take m)):=⟨_,rfl⟩;rw[List.append_assoc,List.append_assoc,← hy] at h7;have HONE:Hid (OneB 2 last (Tr.take m) y):=ac (.inr ⟨rfl,la,lb,me,R,HOO.out.2.2.1,HOO.out.2.2.2,HMR.out.1,HMR.out.2,hy⟩);have H7:=ac h7;clear h7 hy HBB;cases last with
    | true=>
     obtain rfl:m=n:=by have:=eq_of_beq hlast;omega
     have htt:Tr.take m=Tr:=bU (by rw[HNR.out];omega);rw[htt] at HONE;have HTT:=ac htt;clear htt;go_wp2_with fail
     all_goals
      go_ret
      first
      | refine⟨acc++y,rfl,HMB.out y (.last (by rw[HNR.out];omega) HONE.out),?_,H7.out⟩
      | refine⟨rfl,acc++y,HMB.out y (.last (by rw[HNR.out];omega) HONE.out),?_,H7.out⟩
      have h1:=HONE.out.len (by have h:=HOKR.out;rwa [HTT.out] at h);rw[HNR.out] at h1;rw[ae];omega
    | false=>
     have hlt : m < n := by have:m≠n:=fun e=>by rw[e] at hlast;simp at hlast
                            omega
     have HLT2:=ac hlt;go_wp2_with fail;refine⟨⟨_,_,_,_,_,_,_,_,_,_,_,_,_,_,_,_,_,_,_,_,_,_,_,_,_,_,_,_,_,_,_,_,_,_,_,_,_,_,_,_,_,_,_,_,_,_,_,_,_,_,_,_,_,_,?_,by rfl⟩,by show n-m<n;have:=HLT2.out;have:=HM.out;omega⟩;have hm6:m=16384:=by have:=HM.out;omega
     have hdr:T.drop (d+m)=Tr.drop m:=by rw[← HTR.out,qi]
     have hl2:=HONE.out.len HOKR.out;rw[HLL.out.1] at hl2;have hl3:=HLL.out.2.1;have hdl:(Tr.drop m).length=n-m:=by rw[bH,HNR.out]
     refine⟨d+m,acc++y,by have:=HND.out;omega,by rw[ae];omega,.inr (by have:=HND.out;omega),by rw[hdr,hdl];exact HR.out,fun z hz=> ?_,H7.out⟩;rw[hdr] at hz;rw[List.append_assoc];refine HMB.out _ (.more (by rw[HNR.out];omega) ?_ ?_)
     ·have h:=HONE.out;rwa [hm6] at h
     ·rwa [hm6] at hz
inductive ManyP:Nat→List UInt8→List Nat→Prop
 | last {p:Nat} {b:List UInt8}:b.length≤65535→ManyP p b (headL true 0++storedL (p+3) b)
 | more {p:Nat} {b:List UInt8} {y z:List Nat}:65535<b.length→y=headL false 0++storedL (p+3) (b.take 65535)→ManyP (p+y.length) (b.drop 65535) z→ManyP p b (y++z)
theorem ManyP.done {b:List UInt8} {p:Nat} {c:List UInt8} {z:List Nat} (h:ManyP p c z):∀ {x:List Nat} {i n:Nat},PreS b x i n→p=x.length→c=b.drop i→i≤b.length→∃ m,DoneS b (x++z) m:=by
 induction h with
 | @last p c hl=>
  rintro x i n hp rfl rfl hi;have hlen:(b.drop i).length=b.length-i:=bH;have hk:=xh (b:=b) (p:=x.length) (last:=true) hi (Nat.le_refl _) (by omega);rw[bU (by omega)] at hk;exact⟨_,hp.last hk rfl⟩
 | @more p c y z hl hy _ ih=>
  rintro x i n hp rfl rfl hi;have hlen:(b.drop i).length=b.length-i:=bH;have hk:=xh (b:=b) (i:=i) (j:=i+65535) (p:=x.length) (last:=false) (by omega) (by omega) (by omega);rw[show i+65535-i=65535 by omega,← hy] at hk;obtain⟨m,hm⟩:=ih (hp.more hk) (by rw[ae]) (by rw[qi]) (by omega);exact⟨m,by rw[← List.append_assoc];exact hm⟩
theorem Io {w0 w:World} {F:SProp} {B:Nat} (h:St w0 w (az B [] true*F)) {b:List UInt8} (hb:b.length≤1000000) {vb:Value} (hv:Stb w0 F (fun w=>Reads w 1 vb b.length (b.map bv))):
  Calls Tryz.prog 133 #[.pointer (some ⟨B,0,none⟩),vb] w fun e w'=>∃ x,e= .returned (.int .i64 0)∧ManyP 0 b x∧x.length≤100000000∧St w0 w' (az B x true*F):=by
 have H:=ac h;have HT:=ac hv;clear h hv;go_enter Tryz.func133,Tryz.ntmps133;go_wp2_with fail
 go_loopw [1,5,7] (fun v1 v5 v7 wr=>∃ (d:Nat) (acc:List Nat),d≤b.length∧acc.length≤9*d∧(d=0∨d<b.length)∧Stb w0 F (fun w=>Reads w 1 v1 (b.drop d).length ((b.drop d).map bv))∧(∀ z,ManyP acc.length (b.drop d) z→ManyP 0 b (acc++z))∧St w0 wr (az B acc true*F)) (fun v1 v5 v7 _=>yv v1)
 case atStart=>exact⟨0,[],by omega,by simp,.inl rfl,HT.out,fun z h=>h,H.out⟩
 case round=>
  clear H HT;obtain⟨d,acc,hd,hacc,hd0,hrd,hmb,hst⟩:=hrel;obtain⟨n,hn⟩:∃ n,(b.drop d).length=n:=⟨_,rfl⟩;rw[hn] at hrd;have hnd:n=b.length-d:=by rw[← hn,bH]
  obtain⟨ax,cx,rfl⟩:=(hrd wr hst.right).sub;have hnil:ax=none→n=0∧cx=0:=fun e=>by
   subst e;obtain⟨_,⟨e,h0⟩ | ⟨x,c,e,_⟩⟩:=hrd wr hst.right
   ·cases e;exact⟨h0,rfl⟩
   ·cases e
  obtain⟨m,hm⟩:∃ m,min n 65535=m:=⟨_,rfl⟩;have hmn:m≤n:=by omega
  have hm1:(if(65535:Int)<(n:Int) then 65535 else(n:Int))=(m:Int):=by split <;> omega
  obtain⟨last,hlast⟩:∃ last,((m:Int)==(n:Int))=last:=⟨_,rfl⟩;obtain⟨Tr,hTr⟩:∃ Tr,b.drop d=Tr:=⟨_,rfl⟩;rw[hTr] at hn hrd hmb;have HND:=ac hnd;have HMB:=ac hmb;have HTR:=ac hTr;have HNR:=ac hn;have HM:=ac hm;have htl:(Tr.take m).length=m:=by rw[aJ,hn];omega
  have hacc2:acc.length≤9000000:=by omega
  have HLL:=ac (⟨htl,hacc,hd0,hd⟩:(Tr.take m).length=m∧acc.length≤9*d∧(d=0∨d<b.length)∧d≤b.length);have hn1:n≤1000000:=by omega
  have hm3:m≤65535:=by omega
  have HST:=ac hst;have hw32:IntKind.u32.wrap (m:Int)=(m:Int):=IntWalk.u32_in _ (by omega);have hxor:=wQ (m:=m);clear hnd hmb hTr hm htl hacc hd0 hd hn hst
  rcases ax with _ | x -- WALK
  ·obtain⟨rfl,rfl⟩:=hnil rfl;obtain rfl:m=0:=by omega
   obtain rfl:true=last:=hlast;have HS:Hid (Stb w0 F (fun w=>Reads w 1 (.slice none 0 0) 0 ((Tr.take 0).map bv))):=ac fun w h=>⟨rfl,.inl ⟨rfl,rfl⟩⟩
   go_upto_region 2 with (fail)
   go_wp2_with (go_at_call 168;apply ag);refine on ?_;refine(pD HST.out _ 0 (by omega) (by omega)).mono ?_;rintro e w2 ⟨rfl,h2⟩;have H2:=ac h2;clear h2 HST;go_wp2_with (go_at_call 95;apply ag);refine on ?_;refine(qL H2.out (by rw[ae,gi];omega)).mono ?_;rintro e w3 ⟨rfl,h3⟩;have e3:dn (acc++headL true 0)=acc++(headL true 0++List.replicate ((8-(acc.length+3)%8)%8) 0):=by rw[dn,ae,gi,List.append_assoc]
   rw[e3] at h3;obtain⟨c1,hc1⟩:∃ c1,headL true 0++List.replicate ((8-(acc.length+3)%8)%8) 0=c1:=⟨_,rfl⟩;have hc1l:c1.length≤10:=by rw[← hc1,ae,gi,dK];omega
   rw[hc1] at h3;have HC1:=ac hc1;have H3:=ac h3;clear h3 e3 H2 hc1;go_wp2_with (go_at_call 85;apply ag);refine on ?_;refine(dE H3.out 0 16 (by omega) (fun _=>fv (by omega)) (by omega) (by rw[ae];omega)).mono ?_;rintro e w4 ⟨rfl,h4⟩;have H4:=ac h4;clear h4 H3;go_wp2_with (go_at_call 85;apply ag);refine on ?_;rw[show bits BinOp.xor .u32 0 65535=((65535-0:Nat):Int) from wQ (m:=0) (by omega)];refine(dE H4.out (65535-0) 16 (by omega) (fun _=>fv (by omega)) (by omega) (by rw[ae,fc,ae];omega)).mono ?_;rintro e w5 ⟨rfl,h5⟩;obtain⟨c2,hc2⟩:∃ c2,c1++bi true 0 16++bi true (65535-0) 16=c2:=⟨_,rfl⟩;have hc2l:c2.length≤42:=by rw[← hc2,ae,fc,ae,fc];omega
   rw[List.append_assoc,List.append_assoc,← List.append_assoc c1,hc2] at h5;have HC2:=ac hc2;have H5:=ac h5;clear h5 H4 hc2;go_wp2_with fail
   go_loopw [7,32] (fun x7 vi wr=>∃ (j:Nat),j≤0∧vi= .int .i64 j∧St w0 wr (az B (acc++(c2++aF true ((Tr.take 0).take j))) true*F)) (fun x7 vi _=>0-(intOf vi).toNat)
   case atStart=>exact⟨0,by omega,rfl,by simpa [aF] using H5.out⟩
   case round=>
    clear H5;obtain⟨j,hj,rfl,hst⟩:=hrel
    by_cases hjm:j<0
    ·exact absurd hjm (by omega)
    ·obtain rfl:j=0:=by omega
     rw[bU (by rw[HLL.out.1];omega)] at hst;obtain⟨y,hy⟩:∃ y,c2++aF true (Tr.take 0)=y:=⟨_,rfl⟩;have hone:y=headL true 0++storedL (acc.length+3) (Tr.take 0):=by
      rw[← hy,← HC2.out,← HC1.out,storedL,HLL.out.1];simp only[List.append_assoc];rfl
     have HONE:=ac hone;have HYL:Hid (y.length≤42+8*0):=ac (by rw[← hy,ae,eg,HLL.out.1];omega);rw[hy] at hst;have H7:=ac hst;clear hst hy hone;go_wp2_with fail;go_ret;have htt:Tr.take 0=Tr:=bU (by rw[HNR.out];omega);have hone:=HONE.out;rw[htt] at hone;refine⟨acc++y,rfl,by rw[hone];exact HMB.out _ (.last (by rw[HNR.out];omega)),by rw[ae];have:=HYL.out;omega,H7.out⟩
  ·have hcap:=yu (hrd wr HST.out.right);have HS:Hid (Stb w0 F (fun w=>Reads w 1 (.slice (some x) m cx) m ((Tr.take m).map bv))):=ac fun w h=>by
    have:=Reads.takeS (hrd w h) hmn;rw[gW,← kn] at this;exact this
   have HR:Hid (Stb w0 F (fun w=>Reads w 1 (.slice (some (x.add m)) (n-m) (cx-m)) (n-m) ((Tr.drop m).map bv))):=ac fun w h=>by
    have:=Reads.dropS (hrd w h) hmn;rw[gW,← nw] at this;exact this
   go_upto_region 2 with (fail)
   go_wp2_with (go_at_call 168;apply ag);refine on ?_;refine(pD HST.out _ 0 (by omega) (by omega)).mono ?_;rintro e w2 ⟨rfl,h2⟩;have H2:=ac h2;clear h2 HST;go_wp2_with (go_at_call 95;apply ag);refine on ?_;refine(qL H2.out (by rw[ae,gi];omega)).mono ?_;rintro e w3 ⟨rfl,h3⟩;have e3:dn (acc++headL last 0)=acc++(headL last 0++List.replicate ((8-(acc.length+3)%8)%8) 0):=by rw[dn,ae,gi,List.append_assoc]
   rw[e3] at h3;obtain⟨c1,hc1⟩:∃ c1,headL last 0++List.replicate ((8-(acc.length+3)%8)%8) 0=c1:=⟨_,rfl⟩;have hc1l:c1.length≤10:=by rw[← hc1,ae,gi,dK];omega
   rw[hc1] at h3;have HC1:=ac hc1;have H3:=ac h3;clear h3 e3 H2 hc1;go_wp2_with (go_at_call 85;apply ag);refine on ?_;refine(dE H3.out m 16 (by omega) (fun _=>fv (by omega)) (by omega) (by rw[ae];omega)).mono ?_;rintro e w4 ⟨rfl,h4⟩;have H4:=ac h4;clear h4 H3;go_wp2_with (go_at_call 85;apply ag);refine on ?_;rw[hxor (by omega)];refine(dE H4.out (65535-m) 16 (by omega) (fun _=>fv (by omega)) (by omega) (by rw[ae,fc,ae];omega)).mono ?_;rintro e w5 ⟨rfl,h5⟩;obtain⟨c2,hc2⟩:∃ c2,c1++bi true m 16++bi true (65535-m) 16=c2:=⟨_,rfl⟩;have hc2l:c2.length≤42:=by rw[← hc2,ae,fc,ae,fc];omega
   rw[List.append_assoc,List.append_assoc,← List.append_assoc c1,hc2] at h5;have HC2:=ac hc2;have H5:=ac h5;clear h5 H4 hc2;go_wp2_with fail
   go_loopw [7,32] (fun x7 vi wr=>∃ (j:Nat),j≤m∧vi= .int .i64 j∧St w0 wr (az B (acc++(c2++aF true ((Tr.take m).take j))) true*F)) (fun x7 vi _=>m-(intOf vi).toNat)
   case atStart=>exact⟨0,by omega,rfl,by simpa [aF] using H5.out⟩
   case round=>
    clear H5;obtain⟨j,hj,rfl,hst⟩:=hrel
    by_cases hjm:j<m
    ·have hjT:j<(Tr.take m).length:=by rw[HLL.out.1];exact hjm
     obtain⟨b1,o1,hx1,d0⟩:=(HS.out _ hst.right).at_ (j:=j) hjm;cases hx1;rw[au,ai hjT] at d0;have htk:(Tr.take m).take (j+1)=(Tr.take m).take j++[(Tr.take m)[j]]:=List.take_succ_eq_append_getElem hjT;have hjl:((Tr.take m).take j).length≤j:=by rw[aJ];omega
     obtain⟨ch,hch⟩:∃ ch,(Tr.take m)[j]=ch:=⟨_,rfl⟩;rw[hch] at d0 htk;have hcl:ch.toNat<256:=bh ch;replace d0:wr.cell? ⟨b1,o1+j,none⟩=some (.int .u8 (ch.toNat:Int)):=d0;have hjI:(j:Int)<m:=by omega
     have hw8:IntKind.u32.wrap (ch.toNat:Int)=(ch.toNat:Int):=IntWalk.u32_in _ (by omega);have htb:aF true ((Tr.take m).take (j+1))=aF true ((Tr.take m).take j)++bi true ch.toNat 8:=by rw[htk,lk,r7];simp [aF,bi]
     have hbl:(aF true ((Tr.take m).take j)).length≤8*65535:=by rw[eg];omega
     have HTB:=ac htb;clear htk htb hch hjT hjl;generalize aF true ((Tr.take m).take j)=bl at*
     have HST:=ac hst;clear hst;generalize ch.toNat=cn at*
     go_wp2_with fail;refine(dE HST.out cn 8 (by omega) (fun _=>fv (by omega)) (by omega) (by rw[ae,ae];omega)).mono ?_;rintro e w6 ⟨rfl,h6⟩;have H6:=ac h6;clear h6 HST d0;go_wp2_with fail;refine⟨⟨j+1,by omega,by go_num,?_⟩,by simp [intOf];omega⟩;rw[HTB.out];simpa only[List.append_assoc] using H6.out
    ·obtain rfl:j=m:=by omega
     rw[bU (by rw[HLL.out.1];omega)] at hst;obtain⟨y,hy⟩:∃ y,c2++aF true (Tr.take j)=y:=⟨_,rfl⟩;have hone:y=headL last 0++storedL (acc.length+3) (Tr.take j):=by
      rw[← hy,← HC2.out,← HC1.out,storedL,HLL.out.1];simp only[List.append_assoc];rfl
     have HONE:=ac hone;have HYL:Hid (y.length≤42+8*j):=ac (by rw[← hy,ae,eg,HLL.out.1];omega);rw[hy] at hst;have H7:=ac hst;clear hst hy hone;cases last with
     | true=>
      obtain rfl:j=n:=by have:=eq_of_beq hlast;omega
      have htt:Tr.take j=Tr:=bU (by rw[HNR.out];omega);rw[htt] at HONE;clear htt;go_wp2_with fail
      all_goals
       go_ret
       first
       | refine⟨acc++y,rfl,by rw[HONE.out];exact HMB.out _ (.last (by rw[HNR.out];omega)),by rw[ae];have:=HYL.out;omega,H7.out⟩
       | refine⟨rfl,acc++y,by rw[HONE.out];exact HMB.out _ (.last (by rw[HNR.out];omega)),by rw[ae];have:=HYL.out;omega,H7.out⟩
     | false=>
      have hlt : j < n := by have:j≠n:=fun e=>by rw[e] at hlast;simp at hlast
                             omega
      have HLT2:=ac hlt;go_wp2_with fail;refine⟨?_,by show n-j<n;have:=HLT2.out;have:=HM.out;omega⟩;have hm6:j=65535:=by have:=HM.out;omega
      have hdr:b.drop (d+j)=Tr.drop j:=by rw[← HTR.out,qi]
      have hl3:=HLL.out.2.1;have hyl:=HYL.out;have hdl:(Tr.drop j).length=n-j:=by rw[bH,HNR.out]
      refine⟨d+j,acc++y,by have:=HND.out;omega,by rw[ae];omega,.inr (by have:=HND.out;omega),by rw[hdr,hdl];exact HR.out,fun z hz=> ?_,H7.out⟩;rw[hdr,ae] at hz;rw[List.append_assoc];refine HMB.out _ (.more (by rw[HNR.out];omega) ?_ ?_)
      ·have h:=HONE.out;rwa [hm6] at h
      ·rwa [hm6] at hz
def DefS (b:List UInt8) (how:Nat) (x:List Nat):Prop:=
 (how=0∧ManyP 0 b x)∨((how=1∨how=2)∧∃ T,ChnT b 0 T b.length∧ManyB how T x)
theorem DefS.done {b:List UInt8} {how:Nat} {x:List Nat} (h:DefS b how x):∃ n,DoneS b x n:=by
 rcases h with ⟨_,h⟩ | ⟨_,T,ht,h⟩
 ·exact h.done (PreS.nil b) rfl rfl (Nat.zero_le _)
 ·exact h.done (PreS.nil b) ht.tells
theorem Ip {w0 w:World} {F:SProp} (h:St w0 w F) {b:List UInt8} (hb:b.length≤1000000) {v:Value} (hv:Stb w0 F (fun w=>Reads w 1 v b.length (b.map bv))) {how:Nat} (hh:how≤2):
  Calls Tryz.prog 89 #[v,.int .i64 (how:Int)] w fun e w'=>∃ v' x,e= .returned (.tuple #[v',.int .i64 0])∧DefS b how x∧x.length≤100000000∧St w0 w' (own 5 1 v' ((x.length+7)/8) ((aq true x).map bv)*F):=by
 have H:=ac h;have HV:=ac hv;clear h hv;have hcases:how=0∨how=1∨how=2:=by omega
 clear hh;go_enter Tryz.func89,Tryz.ntmps89;go_wp2_with (go_at_call 84;apply ag);refine on ?_;refine(kC H.out).mono ?_;rintro e w2 ⟨B,rfl,h2⟩;have H2:=ac h2;clear h2
 rcases hcases with rfl | rfl | rfl
 ·go_wp2_with (go_at_call 133;apply ag);refine on ?_;refine(Io H2.out hb HV.out).mono ?_;rintro e w3 ⟨x,rfl,hx,hxl,h3⟩;have HX:=ac hx;have H3:=ac h3;clear h3 hx H2;have HEND:=H3;go_wp2_with (go_at_call 86;apply ag);refine on ?_;refine(hU HEND.out).mono ?_;rintro e w9 ⟨v9,rfl,h9⟩;have H9:=ac ((h9.perm (af _ _ _)).right);clear h9;go_wp2_with fail;go_ret2;exact⟨v9,x,rfl,.inl ⟨rfl,HX.out⟩,hxl,H9.out⟩
 ·go_wp2_with (go_at_call 135;apply ag);refine on ?_;refine(xK H2.out (HV.out.more _) hb).mono ?_;rintro e w3 ⟨vt,T,rfl,ht,h3⟩;have h3:=h3.perm (af _ _ _);have htl:=(ht.tells.le (Nat.zero_le _)).2.2;have HTB:=ac (yA h3 (T:=T) (by omega) (sf ht.tells) (how:=1) (by omega) (vt:=vt) Stb.of_own);have HT:=ac ht;clear h3 ht htl H2;go_wp2_with (go_at_call 134;apply ag);refine on ?_;refine HTB.out.mono ?_;rintro e w4 ⟨x,rfl,hx,hxl,h4⟩;have HX:=ac hx;have HEND:=ac ((h4.perm (af _ _ _)).right);clear h4 hx HTB;go_wp2_with (go_at_call 86;apply ag);refine on ?_;refine(hU HEND.out).mono ?_;rintro e w9 ⟨v9,rfl,h9⟩;have H9:=ac ((h9.perm (af _ _ _)).right);clear h9;go_wp2_with fail;go_ret2;exact⟨v9,x,rfl,.inr ⟨.inl rfl,T,HT.out,HX.out⟩,hxl,H9.out⟩
 ·go_wp2_with (go_at_call 135;apply ag);refine on ?_;refine(xK H2.out (HV.out.more _) hb).mono ?_;rintro e w3 ⟨vt,T,rfl,ht,h3⟩;have h3:=h3.perm (af _ _ _);have htl:=(ht.tells.le (Nat.zero_le _)).2.2;have HTB:=ac (yA h3 (T:=T) (by omega) (sf ht.tells) (how:=2) (by omega) (vt:=vt) Stb.of_own);have HT:=ac ht;clear h3 ht htl H2;go_wp2_with (go_at_call 134;apply ag);refine on ?_;refine HTB.out.mono ?_;rintro e w4 ⟨x,rfl,hx,hxl,h4⟩;have HX:=ac hx;have HEND:=ac ((h4.perm (af _ _ _)).right);clear h4 hx HTB;go_wp2_with (go_at_call 86;apply ag);refine on ?_;refine(hU HEND.out).mono ?_;rintro e w9 ⟨v9,rfl,h9⟩;have H9:=ac ((h9.perm (af _ _ _)).right);clear h9;go_wp2_with fail;go_ret2;exact⟨v9,x,rfl,.inr ⟨.inr rfl,T,HT.out,HX.out⟩,hxl,H9.out⟩
end Go.Proofs.YtboflbdniogcdaaGreatDoor
