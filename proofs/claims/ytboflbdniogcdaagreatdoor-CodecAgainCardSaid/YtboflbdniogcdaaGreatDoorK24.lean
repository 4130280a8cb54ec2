/-
  Parts of a proof.
-/
import Derived.Test.YtboflbdniogcdaaGreatDoorK00
import Derived.Test.YtboflbdniogcdaaGreatDoorK23
import Derived.Test.YtboflbdniogcdaaGreatDoorK01
import Derived.Laws.BitsAllLaws
import Derived.Test.YtboflbdniogcdaaGreatDoorK06
set_option linter.unusedVariables false
set_option linter.unusedSimpArgs false
set_option maxRecDepth 100000
set_option maxHeartbeats 100000000
namespace Go.Proofs.YtboflbdniogcdaaGreatDoor
open Go.RowKit Go.Mz
theorem EB (c k:Nat) (hc:c<256):bits BinOp.and .u8 ((c:Int)/2^k) 1=((c/2^k%2:Nat):Int):=by
 have h:c/2^k<256:=jh (kH _ _) hc;have e1:((c/2^k:Nat):Int)=(c:Int)/2^k:=by simp
 rw[← e1,show(1:Int)=((1:Nat):Int) from rfl,u8_and_nat _ _ h (by decide),Nat.and_one_is_mod]
theorem EC {w:World} {v:Value} {bs:List UInt8} (hr:Reads w 1 v bs.length (bs.map bv)) (hl:bs.length≤1000000000) {x:Nat} (hx:x<8*bs.length):
  Calls Tryz.prog 91 #[v,.int .i64 (x:Int)] w fun e w'=>e= .returned (.bool ((cE bs false x:Nat)==1))∧w=w':=by
 obtain⟨a,cap,rfl⟩:=hr.sub;have hi:x/8<bs.length:=by omega
 obtain⟨b,off,rfl,hc⟩:=hr.at_ hi;have g1:(bs.map bv)[x/8]? =some (bv (bs.getD (x/8) 0)):=by rw[aC,List.getD_eq_getElem?_getD,au hi];rfl
 rw[g1] at hc;simp only[bv] at hc;have hb:(x:Int)/8<bs.length:=by omega
 have hc8:(bs.getD (x/8) 0).toNat<256:=bR _;have E:=ac (show cE bs false x=(bs.getD (x/8) 0).toNat/2^(cond false (x%8) (7-x%8))%2 from rfl);generalize (bs.getD (x/8) 0).toNat=c at*
 generalize cE bs false x=r at*
 generalize bs.length=nl at*
 clear g1 hr;go_enter Tryz.func91,Tryz.ntmps91;go_wp2_with fail;go_ret;refine⟨?_,rfl⟩;have h:=EB c (7-x%8) hc8;have e:=E.out;simp only[cond] at e;rw[← e] at h;rw[h];have:((r:Int)==1)=(r==1):=by rw[Bool.eq_iff_iff];simp;omega
 rw[← this];rfl
theorem ED:∀ (q:List Nat) (c i:Nat),Bit q→c≤1→(bi c i q).length%2=(c+dP c q)%2:=by
 intro q
 induction q with
 | nil=>intro c i _ _;simp [bi,dP];omega
 | cons x r ih=>
  intro c i hb hc;have hx:x≤1:=hb x (by simp);have hr:Bit r:=fun y hy=>hb y (by simp [hy])
  have e:dP c (x::r)=dP x r:=by unfold dP;exact List.getLastD_cons ..
  rw[e,bi]
  by_cases h:x=c
  ·subst h;rw[if_pos rfl];exact ih _ _ hr hx
  ·rw[if_neg h,aO];have:=ih x (i+1) hr hx;omega
theorem EE {q:List Nat} (hb:Bit q):(af q).length%2=dP 0 q%2:=by
 have:=ED q 0 0 hb (by omega);rw[af];omega
theorem EF {q:List Nat} (hb:Bit q) {b:Nat} (hb1:b≤1):af (q++[b])=if(af q).length%2=b then af q else af q++[q.length]:=by
 have hl:=xw hb;rw[EE hb,af,xo,← af,bA]
 by_cases h:b=dP 0 q
 ·rw[if_pos (by omega)];simp [bi,h]
 ·rw[if_neg (by omega)];simp [bi,h]
theorem EG {w0 w:World} {F:SProp} (h:St w0 w F) {bs:List UInt8} {v:Value} (hv:Stb w0 F (fun w=>Reads w 1 v bs.length (bs.map bv))) (hl:bs.length≤1000000000) {width:Nat} (hw:width≤32768) (hb:(width+7)/8≤bs.length):
  Calls Tryz.prog 43 #[v,.int .i64 (width:Int)] w fun e w'=>∃ v',e= .returned (.tuple #[v',.int .i64 0])∧St w0 w' (own 3 1 v' (af ((ag false bs).take width)).length ((af ((ag false bs).take width)).map nv)*F):=by
 obtain⟨a0,c0,rfl⟩:=(hv w h).sub;have HBL:=ac (fun w (h:St w0 w F) (x:Nat) (hx:x<width)=>EC (hv w h) hl (x:=x) (by omega));have HG:=ac (fun x (hx:x<width)=>(oU false bs x (by omega)));have HBB:=ac (fun k=>(fun y hy=>oT false bs y (jf hy):Bit ((ag false bs).take k)));have HBV:=ac (fun x (hx:x<width)=>show cE bs false x≤1 from oT false bs _ (aI (oU false bs x (by omega))));have HLN:=ac (fun x (hx:x≤width)=>show((ag false bs).take x).length=x by rw[aL,bM];omega);have hbI:¬ (bs.length:Int)<((width:Int)+7)/8:=by omega
 generalize ag false bs=p at*
 obtain⟨nl,hnl⟩:∃ nl,bs.length=nl:=⟨_,rfl⟩;rw[hnl] at hl hbI HBL ⊢;have H:=ac h;have HV:=ac hv;clear hv h hb hnl;have T:=eM;go_enter Tryz.func43,Tryz.ntmps43;go_wp2_with fail;have h1:=H.out.lit #[] 3 0 rfl (by decide);have H1:=ac (show St w0 _ (own 3 1 (.slice (some ⟨w.heap.size,0,none⟩) 0 0) 0 []*F) from h1);clear h1;generalize w.heap.size=g0 at*
 go_loopw [6,24] (fun vo vi wr=>∃ (k:Nat) (ao:Option Addr) (co:Nat) (Z:List Nat),k≤width∧vi= .int .i64 k∧vo= .slice ao Z.length co∧RowKit.Hid (Z=af (p.take k))∧Z.length≤k∧St w0 wr (own 3 1 (.slice ao Z.length co) Z.length (Z.map nv)*F)) (fun _ vi _=>width-(intOf vi).toNat)
 case atStart=>exact⟨0,_,0,[],Nat.zero_le _,rfl,rfl,ac rfl,Nat.zero_le _,H1.out⟩
 case round=>
  clear H1 H;obtain⟨k,ao,co,Z,hk,rfl,rfl,hZ,hZl,hst⟩:=hrel
  by_cases hkn:k<width
  ·have hkI:(k:Int)<width:=by omega
   have HC:=ac (HBL.out _ hst.right k hkn);have hx:=HG.out k hkn;have hx1:=HBV.out k hkn;have hsn:=EF (HBB.out k) hx1;rw[← (show p.take (k+1)=p.take k++[_] by rw[jJ,hx];rfl),← hZ.out,HLN.out k hk] at hsn;have HSN:=ac hsn;have HST:=ac hst;clear hx hsn hst;generalize cE bs false k=d at*
   obtain⟨zl,hzl⟩:∃ zl,Z.length=zl:=⟨_,rfl⟩;rw[hzl] at HSN HST hZl ⊢;have HZL:=ac hzl;clear hzl
   by_cases hd:zl%2=d
   ·rcases(show d=0∨d=1 by omega) with rfl | rfl
    ·have HS2:=ac (show af (p.take (k+1))=Z by have:=HSN.out;rwa [if_pos hd] at this);have hz:(zl:Int)%2=0:=by omega
     clear hd;go_wp2_with (go_at_call 91;refine HC.out.mono ?_;rintro e w2 ⟨rfl,rfl⟩);exact⟨⟨k+1,ao,co,Z,by omega,by go_num,by rw[HZL.out],ac HS2.out.symm,by rw[HZL.out];omega,by rw[HZL.out];exact HST.out⟩,by simp [intOf];omega⟩
    ·have HS2:=ac (show af (p.take (k+1))=Z by have:=HSN.out;rwa [if_pos hd] at this);have hz:(zl:Int)%2=1:=by omega
     clear hd;go_wp2_with (go_at_call 91;refine HC.out.mono ?_;rintro e w2 ⟨rfl,rfl⟩);exact⟨⟨k+1,ao,co,Z,by omega,by go_num,by rw[HZL.out],ac HS2.out.symm,by rw[HZL.out];omega,by rw[HZL.out];exact HST.out⟩,by simp [intOf];omega⟩
   ·rcases(show d=0∨d=1 by omega) with rfl | rfl
    ·have HS2:=ac (show af (p.take (k+1))=Z++[k] by have:=HSN.out;rwa [if_neg hd] at this);have hz:(zl:Int)%2=1:=by omega
     clear hd;go_upto_region 10 with (go_at_call 91;refine HC.out.mono ?_;rintro e w2 ⟨rfl,rfl⟩)
     go_wp2_with (at_builtin;apply ap);refine on (aG T rfl _ _ rfl rfl (HST.out.drop_alloc (.cells #[.int .i64 (k:Int)] 3)) rfl (ml wr k) (jw [k]) (by unfold maxLen;omega) (by omega) ?_);intro v3 w3 h3 _;have h4:St w0 w3 (own 3 1 v3 (Z++[k]).length ((Z++[k]).map nv)*F):=by
      rw[ae,List.map_append,HZL.out];exact h3
     have hl2:(Z++[k]).length=zl+1:=by rw[ae,HZL.out];rfl
     generalize Z++[k]=Z2 at*
     obtain⟨a3,c3,rfl⟩:=h4.reads.sub;rw[hl2] at h4;have H4:=ac h4;have HL2:=ac hl2;clear h3 h4 hl2;go_wp2_with fail;exact⟨⟨k+1,a3,c3,Z2,by omega,by go_num,by rw[HL2.out],ac HS2.out.symm,by rw[HL2.out];omega,by rw[HL2.out];exact H4.out⟩,by simp [intOf];omega⟩
    ·have HS2:=ac (show af (p.take (k+1))=Z++[k] by have:=HSN.out;rwa [if_neg hd] at this);have hz:(zl:Int)%2=0:=by omega
     clear hd;go_upto_region 10 with (go_at_call 91;refine HC.out.mono ?_;rintro e w2 ⟨rfl,rfl⟩)
     go_wp2_with (at_builtin;apply ap);refine on (aG T rfl _ _ rfl rfl (HST.out.drop_alloc (.cells #[.int .i64 (k:Int)] 3)) rfl (ml wr k) (jw [k]) (by unfold maxLen;omega) (by omega) ?_);intro v3 w3 h3 _;have h4:St w0 w3 (own 3 1 v3 (Z++[k]).length ((Z++[k]).map nv)*F):=by
      rw[ae,List.map_append,HZL.out];exact h3
     have hl2:(Z++[k]).length=zl+1:=by rw[ae,HZL.out];rfl
     generalize Z++[k]=Z2 at*
     obtain⟨a3,c3,rfl⟩:=h4.reads.sub;rw[hl2] at h4;have H4:=ac h4;have HL2:=ac hl2;clear h3 h4 hl2;go_wp2_with fail;exact⟨⟨k+1,a3,c3,Z2,by omega,by go_num,by rw[HL2.out],ac HS2.out.symm,by rw[HL2.out];omega,by rw[HL2.out];exact H4.out⟩,by simp [intOf];omega⟩
  ·obtain rfl:k=width:=by omega
   have HST:=ac hst;clear hst;go_wp2_with fail;go_ret2;refine⟨_,rfl,?_⟩;rw[← hZ.out];exact HST.out
def bu (px:List Nat) (x:Nat):List Nat:=px.take x++List.replicate (px.length-x) 0
theorem jT {px:List Nat} {x:Nat} (h:x≤px.length):(bu px x).length=px.length:=by
 rw[bu,ae,aL,df];omega
theorem jU (px:List Nat) (x j:Nat):(bu px x).getD j 0=if j<x then px.getD j 0 else 0:=by
 simp only[bu,List.getD_eq_getElem?_getD]
 by_cases h:j<x
 ·rw[if_pos h]
  by_cases h2:j<px.length
  ·rw[bK (by rw[aL];omega),fP,if_pos h]
  ·rw[bh (by simp;omega),bh (by omega)]
 ·rw[if_neg h]
  by_cases h2:j<px.length
  ·rw[ck (by rw[aL];omega),dx]
   split <;> rfl
  ·rw[bh (by simp;omega)];rfl
theorem EH {px:List Nat} {x:Nat} (hx:x<px.length) (h:px.getD x 0=0):bu px (x+1)=bu px x:=by
 apply gD;intro j
 by_cases hj:j<px.length
 ·have e1:(bu px (x+1))[j]? =some ((bu px (x+1)).getD j 0):=by
   rw[List.getD_eq_getElem?_getD,au (by rw[jT (by omega)];exact hj)];rfl
  have e2:(bu px x)[j]? =some ((bu px x).getD j 0):=by
   rw[List.getD_eq_getElem?_getD,au (by rw[jT (by omega)];exact hj)];rfl
  rw[e1,e2,jU,jU]
  congr 1
  by_cases h1:j<x
  ·rw[if_pos h1,if_pos (by omega)]
  ·rw[if_neg h1]
   by_cases h2:j=x
   ·subst h2;rw[if_pos (by omega),h]
   ·rw[if_neg (by omega)]
 ·rw[bh (by rw[jT (by omega)];omega),bh (by rw[jT (by omega)];omega)]
theorem EJ {px:List Nat} {a:Nat}:∀ n,a+n≤px.length→(∀ x,a≤x→x<a+n→px.getD x 0=0)→bu px (a+n)=bu px a:=by
 intro n
 induction n with
 | zero=>intro _ _;rfl
 | succ n ih=>
  intro h1 h2;rw[← da,EH (by omega) (h2 _ (by omega) (by omega))];exact ih (by omega) fun x hx hx2=>h2 x hx (by omega)
theorem EK (px:List Nat):bu px px.length=px:=by rw[bu,cS,b8];simp
theorem EM {px:List Nat} {x:Nat} (h:px.getD x 0=1):byteB false (bu px (x+1)) (x/8)=byteB false (bu px x) (x/8)+2^(7-x%8):=by
 have e:=vF false (fun j=>(bu px x).getD (8*(x/8)+j) 0) (x%8) 1 (by rw[jU,if_neg (by omega)]) 8 (by omega);rw[Nat.one_mul] at e;simp only[cond] at e;rw[byteB,byteB,← e];refine jo _ _ fun j hj=> ?_
 by_cases hjx:j=x%8
 ·rw[if_pos hjx,jU,if_pos (by omega),show 8*(x/8)+j=x by omega,h]
 ·rw[if_neg hjx,jU,jU]
  by_cases h1:8*(x/8)+j<x
  ·rw[if_pos h1,if_pos (by omega)]
  ·rw[if_neg h1,if_neg (by omega)]
theorem EN {px:List Nat} {x i:Nat} (hi:i≠x/8):byteB false (bu px (x+1)) i=byteB false (bu px x) i:=by
 rw[byteB,byteB];refine jo _ _ fun j hj=> ?_
 rw[jU,jU]
 by_cases h1:8*i+j<x
 ·rw[if_pos h1,if_pos (by omega)]
 ·rw[if_neg h1,if_neg (by omega)]
theorem EO {px:List Nat} {x:Nat}:byteB false (bu px x) (x/8) ||| 128/2^(x%8)=byteB false (bu px x) (x/8)+2^(7-x%8):=by
 have hm:=rJ (fun j=>(bu px x).getD (8*(x/8)+j) 0) (x%8) (fun j hj=>by rw[jU,if_neg (by omega)]) 8;have h8:x%8<8:=lK _ (by decide);have e:128/2^(x%8)=2^(7-x%8):=by
  generalize x%8=m at h8;have:m=0∨m=1∨m=2∨m=3∨m=4∨m=5∨m=6∨m=7:=by omega
  rcases this with rfl | rfl | rfl | rfl | rfl | rfl | rfl | rfl <;> rfl
 rw[e];rw[← byteB] at hm;have hk:byteB false (bu px x) (x/8)=2^(8-x%8)*(byteB false (bu px x) (x/8)/2^(8-x%8)):=by
  have:=Nat.div_add_mod (byteB false (bu px x) (x/8)) (2^(8-x%8));omega
 rw[hk];exact(Nat.two_pow_add_eq_or_of_lt (AE (by decide) (by omega)) _).symm
theorem s5 {px:List Nat} (hb:Bit px) (x:Nat):Bit (bu px x):=fun y hy=>by
 rcases cD.1 hy with h | h
 ·exact hb y (jf h)
 ·rw[uB h];exact Nat.zero_le _
theorem EP {px:List Nat} (hb:Bit px) {x:Nat} (hx:x<px.length) (h:px.getD x 0=1):
  ((az false (bu px x)).map bv).set (x/8) (.int .u8 ((byteB false (bu px x) (x/8)+2^(7-x%8):Nat):Int))=(az false (bu px (x+1))).map bv:=by
 have e:(.int .u8 ((byteB false (bu px x) (x/8)+2^(7-x%8):Nat):Int):Value)=bv (UInt8.ofNat (byteB false (bu px (x+1)) (x/8))):=by
  rw[bv,l6 false (s5 hb _),EM h]
 have l1:(az false (bu px x)).length=(px.length+7)/8:=by rw[dq,jT (by omega)]
 have l2:(az false (bu px (x+1))).length=(px.length+7)/8:=by rw[dq,jT (by omega)]
 rw[e,← ew]
 congr 1
 apply gD;intro i
 by_cases hi:i<(px.length+7)/8
 ·rw[kh _ _ _ (by rw[jT (by omega)];exact hi)]
  by_cases hix:i=x/8
  ·subst hix;rw[ji (by omega)]
  ·rw[jj (by omega),kh _ _ _ (by rw[jT (by omega)];exact hi),EN hix]
 ·rw[bh (by rw[eg];omega),bh (by omega)]
def bP (l:List Nat) (x:Nat):Nat:=(l.filter fun y=>decide (y≤x)).length
theorem s6 {l:List Nat} {x:Nat} (h:∀ y∈l,x<y):bP l x=0:=by
 rw[bP,K5.2 (fun y hy=>by have:=h y hy;simp;omega)];rfl
theorem EQ {l:List Nat} {x:Nat} (h:∀ y∈l,y≤x):bP l x=l.length:=by
 rw[bP,List.filter_eq_self.2 (fun y hy=>by simpa using h y hy)]
theorem ER:∀ (p:List Nat) (c i x:Nat),Bit p→c≤1→x<p.length→p.getD x 0=(c+bP (bi c i p) (i+x))%2:=by
 intro p
 induction p with
 | nil=>intro c i x _ _ h;simp at h
 | cons b r ih=>
  intro c i x hb hc hx;have hb1:b≤1:=hb b (by simp);have hr:Bit r:=fun y hy=>hb y (by simp [hy])
  rw[bi]
  by_cases e:b=c
  ·subst e;rw[if_pos rfl];cases x with
   | zero=>
    rw[s6 (fun y hy=>by have:=pR r b (i+1) y hy;omega)];simp;omega
   | succ x=>
    have:=ih b (i+1) x hr hb1 (by simpa using hx);rw[K6,this];congr 3;omega
  ·rw[if_neg e];have hc1:bP (i::bi b (i+1) r) (i+x)=1+bP (bi b (i+1) r) (i+x):=by
    rw[bP,bP,List.filter_cons_of_pos (by simp),aO];omega
   rw[hc1];cases x with
   | zero=>
    rw[s6 (fun y hy=>by have:=pR r b (i+1) y hy;omega)];simp;omega
   | succ x=>
    have:=ih b (i+1) x hr hb1 (by simpa using hx);rw[K6,this,show i+1+x=i+(x+1) by omega];omega
theorem ES {l:List Nat} {k x:Nat} (hk:k≤l.length) (h1:∀ y∈l.take k,y≤x) (h2:∀ y∈l.drop k,x<y):bP l x=k:=by
 have e:bP l x=bP (l.take k) x+bP (l.drop k) x:=by
  conv=>lhs;rw[← ez k l]
  rw[bP,jk,ae];rfl
 rw[e,EQ h1,s6 h2,aL];omega
def dB (l:List Nat) (W k:Nat):Nat:=l.getD k W
theorem ET {l:List Nat} (hinc:l.Pairwise (· < ·)) {W k x:Nat} (hk:k≤l.length) (h1:∀ a,0<k→l[k-1]? =some a→a≤x) (h2:x<dB l W k):bP l x=k:=by
 refine ES hk (fun y hy=> ?_) fun y hy=> ?_
 ·obtain⟨j,hj,rfl⟩:=kM.1 hy;rw[aL] at hj;rw[AF];have hkk:k-1<l.length:=by omega
  have ha:=h1 _ (by omega) (au hkk)
  by_cases e:j=k-1
  ·subst e;exact ha
  ·exact dL (kO (oL.1 hinc j (k-1) (by omega) hkk (by omega))) ha
 ·obtain⟨j,hj,rfl⟩:=kM.1 hy;rw[a8] at hj;rw[List.getElem_drop];have hkk:k<l.length:=by omega
  have e2:dB l W k=l[k]:=by rw[dB,List.getD_eq_getElem?_getD,au hkk];rfl
  rw[e2] at h2
  by_cases e:j=0
  ·subst e;exact h2
  ·exact Nat.lt_trans h2 (oL.1 hinc k (k+j) hkk (by omega) (by omega))
theorem xJ {px:List Nat} (hb:Bit px) {k x:Nat} (hk:k≤(af px).length) (h1:∀ a,0<k→(af px)[k-1]? =some a→a≤x) (h2:x<dB (af px) px.length k) (hx:x<px.length):px.getD x 0=k%2:=by
 rw[ER px 0 0 x hb (by omega) hx,bA,bA]
 congr 1
 exact ET (iz px) hk h1 h2
theorem s7 {px:List Nat} (k:Nat):dB (af px) px.length k≤px.length:=by
 rw[dB,List.getD_eq_getElem?_getD];cases h:(af px)[k]? with
 | none=>exact Nat.le_refl _
 | some a=>exact kO (gK px a (aI h))
theorem nP {l:List Nat} {W k a:Nat} (h:l[k]? =some a):dB l W k=a:=by rw[dB,List.getD_eq_getElem?_getD,h];rfl
theorem pY {l:List Nat} {W k:Nat} (h:l.length≤k):dB l W k=W:=by rw[dB,List.getD_eq_getElem?_getD,bh h];rfl
theorem xK {px:List Nat} (k:Nat):dB (af px) px.length k≤dB (af px) px.length (k+1):=by
 rcases bV (k+1) (af px).length with h | h
 ·rw[nP (au h),nP (au (show k<(af px).length by omega))];exact kO (oL.1 (iz px) k (k+1) (by omega) h (by omega))
 ·rw[pY h];exact s7 k
theorem EU {px:List Nat} (hb:Bit px) {k:Nat} (hk:k%2=0) (hk2:k≤(af px).length+1) {a:Nat} (ha:k=0∧a=0∨0<k∧a=dB (af px) px.length (k-1)):bu px (dB (af px) px.length k)=bu px a:=by
 have hle:a≤dB (af px) px.length k:=by
  rcases ha with ⟨_,rfl⟩ | ⟨h,rfl⟩
  ·exact Nat.zero_le _
  ·have:=xK (px:=px) (k-1);rwa [show k-1+1=k by omega] at this
 obtain⟨n,hn⟩:∃ n,dB (af px) px.length k=a+n:=⟨_,(Nat.add_sub_cancel' hle).symm⟩;have hW:=s7 (px:=px) k;rw[hn];refine EJ n (by omega) fun x h1 h2=> ?_
 rcases bV (af px).length k with h | h
 ·exfalso
  rcases ha with ⟨h0,_⟩ | ⟨h0,e⟩
  ·omega
  ·rw[pY (by omega)] at e;omega
 ·rw[xJ hb h (fun b h0 hb'=> ?_) (by omega) (by omega),hk]
  rcases ha with ⟨h0',_⟩ | ⟨_,e⟩
  ·omega
  ·rw[nP hb'] at e;omega
theorem EV {w0 w:World} {F:SProp} (h:St w0 w F) {px:List Nat} (hb:Bit px) {W:Nat} (hW:px.length=W) (hw:W≤32768) {v:Value} (hv:Stb w0 F (fun w=>Reads w 1 v (af px).length ((af px).map nv))):
  Calls Tryz.prog 77 #[v,.int .i64 (W:Int)] w fun e w'=>∃ v',e= .returned (.tuple #[v',.int .i64 0])∧St w0 w' (own 5 1 v' ((W+7)/8) ((az false px).map bv)*F):=by
 have hinc:=iz px;have hlt:=gK px;have hcl:(af px).length≤W:=dL (xp px 0 0) (Nat.le_of_eq hW);have HMONO:=ac (fun k=>xK (px:=px) k);have HRI:=ac (fun(w:World) (hr:Reads w 1 v (af px).length ((af px).map nv))=>show Calls Tryz.prog 126 #[v,.int .i64 (W:Int)] w fun e w'=>e= .returned (.bool true)∧w'=w by
  have C:=nJ (l:=(af px).map Int.ofNat) (W:Int) (v:=v) (w:=w) (by rw[bS,nI];exact hr);rwa [pU (af px) (-1) W (fun x hx=>⟨by omega,by rw[← hW];exact hlt x hx⟩) hinc] at C)
 have HRUN:=ac (fun k a (h1:k%2=0) (h2:k≤(af px).length+1) (h3:k=0∧a=0∨0<k∧a=dB (af px) px.length (k-1))=>EU hb h1 h2 h3);have HBIT:=ac (fun k x (hk:k≤(af px).length) (h1:∀ a,0<k→(af px)[k-1]? =some a→a≤x) (h2:x<dB (af px) px.length k) (hx:x<px.length)=>xJ hb hk h1 h2 hx);have HPUT:=ac (fun x (hx:x<px.length) (h:px.getD x 0=1)=>EP hb hx h);have HOR:=ac (fun x=>EO (px:=px) (x:=x));have HLT:=ac (fun x=>nc false (s5 hb x) (x/8));have HGET:=ac (fun x (hx:x<px.length)=>show((az false (bu px x)).map bv)[x/8]? =some (.int .u8 (byteB false (bu px x) (x/8):Nat)) by
  rw[aC,kh _ _ _ (by rw[jT (by omega)];omega)];simp only[b7,bv,l6 false (s5 hb _)])
 have HALL:=ac (EK px);have HPL:=ac (fun k=>s7 (px:=px) k);have HZ:=ac (show(madeCells (Value.int .u8 0).cells ((W+7)/8*1)).toList=(az false (bu px 0)).map bv by
  rw[gz];simp only[Value.cells,toList_madeCells_one];have e:bu px 0=List.replicate W 0:=by rw[bu,hW];simp
  rw[e,az,df,eU];apply gD;intro i;rw[dx,aC]
  by_cases hi:i<(W+7)/8
  ·rw[if_pos hi,dW hi];have:byteB false (List.replicate W 0) i=0:=by
    rw[byteB,jo false (g:=fun _=>0) 8 (fun j _=>by rw[List.getD_eq_getElem?_getD,dx];split <;> rfl),vE]
   simp [this,bv]
  ·rw[if_neg hi,bh (by simp;omega)];rfl)
 rw[hW] at HRUN HBIT HPUT HGET HALL HPL HMONO;obtain⟨l,hl⟩:∃ l,af px=l:=⟨_,rfl⟩;rw[hl] at hv hcl HRI HRUN HBIT HPL HMONO;clear hinc hlt hl hb hW;obtain⟨nl,hnl⟩:∃ nl,l.length=nl:=⟨_,rfl⟩;rw[hnl] at hv hcl HRI HRUN HBIT;have HNL:=ac hnl;clear hnl;obtain⟨a0,c0,rfl⟩:=(hv w h).sub;have HV:=ac hv;have H:=ac h;have hw1:¬ (32768:Int)<W:=by omega
 obtain⟨n8,hn8⟩:∃ n8,(W+7)/8=n8:=⟨_,rfl⟩;have hn8I:((W:Int)+7)/8=(n8:Int):=by omega
 rw[hn8] at HZ ⊢;have HN8:=ac hn8;have hn8b:n8≤5000:=by omega
 clear hv h hn8;have T:=cP;go_enter Tryz.func77,Tryz.ntmps77;go_wp2_with (first | (go_at_call 126;refine(HRI.out _ (HV.out _ H.out)).mono ?_;rintro e w1 ⟨rfl,rfl⟩) | (at_make;apply ap));refine on (gV T rfl _ _ rfl n8 rfl rfl hn8I hn8I H.out (by unfold maxLen;omega) (by omega) ?_);intro v' w1 h1;rw[HZ.out] at h1;obtain⟨a',cap',rfl⟩:=h1.reads.sub;have H1:=ac h1;clear h1;go_wp2_with fail
 go_loopw [7] (fun vi wr=>∃ k:Nat,k%2=0∧k≤nl+1∧vi= .int .i64 k∧St w0 wr (own 5 1 (.slice a' n8 cap') n8 ((az false (bu px (dB l W k))).map bv)*F)) (fun vi _=>nl+1-(intOf vi).toNat)
 case atStart=>exact⟨0,rfl,Nat.zero_le _,rfl,by rw[HRUN.out 0 0 rfl (Nat.zero_le _) (.inl ⟨rfl,rfl⟩)];exact H1.out⟩
 case round=>
  clear H1 H HZ HRI;obtain⟨k,hk2,hk,rfl,hst⟩:=hrel
  by_cases hkn:k<nl
  ·have hkI:(k:Int)<nl:=by omega
   have hkl:k<l.length:=by rw[HNL.out];exact hkn
   obtain⟨x,hx⟩:∃ x,l[k]? =some x:=⟨l[k],au _⟩;obtain⟨b,off,rfl,hc⟩:=(HV.out _ hst.right).at_ hkn;rw[aC,hx] at hc;simp only[b7,nv] at hc;have hEk:dB l W k=x:=nP hx;have HE2:=ac (HRUN.out (k+2) (dB l W (k+1)) (by omega) (by omega) (.inr ⟨by omega,rfl⟩));rw[hEk] at hst;have HONE:=ac (fun y (h1:x≤y) (h2:y<dB l W (k+1)) (h3:y<W)=>show px.getD y 0=1 by
    rw[HBIT.out (k+1) y (by omega) (fun a _ ha=>by
     rw[rf,hx] at ha;cases ha;exact h1) h2 h3]
    omega)
   have hEW:=HPL.out (k+1);have hxE:x≤dB l W (k+1):=by have:=HMONO.out k;rwa [hEk] at this
   have HST:=ac hst;have HX:=ac hx;clear hst hx hEk
   by_cases hk1:k+1<nl
   ·have hk1I:(k:Int)+1<nl:=by omega
    have hkl1:k+1<l.length:=by rw[HNL.out];exact hk1
    obtain⟨e,he⟩:∃ e,l[k+1]? =some e:=⟨l[k+1],au _⟩;obtain⟨b',off',ee,hc1⟩:=(HV.out _ HST.out.right).at_ hk1;cases ee;rw[aC,he] at hc1;simp only[b7,nv] at hc1;have hE:dB l W (k+1)=e:=nP he;rw[hE] at HE2 HONE hEW hxE;obtain⟨E,rfl⟩:∃ E,E=e:=⟨_,rfl⟩;obtain⟨k1,hk1'⟩:∃ k1,k+1=k1:=⟨_,rfl⟩;have hk1I2:(k:Int)+1=(k1:Int):=by omega
    rw[hk1'] at hc1;have hk1n:(k1:Int)<nl:=by omega
    have HK1:=ac hk1';clear he hE hk1' hk1I hk1;go_wp2_with fail
    go_loopw [9] (fun vi wr=>∃ y:Nat,x≤y∧y≤E∧vi= .int .i64 y∧St w0 wr (own 5 1 (.slice a' n8 cap') n8 ((az false (bu px y)).map bv)*F)) (fun vi _=>E-(intOf vi).toNat)
    case atStart=>exact⟨x,Nat.le_refl _,hxE,rfl,HST.out⟩
    case round=>
     clear HST;obtain⟨y,hy1,hy2,rfl,hst⟩:=hrel
     by_cases hyE:y<E
     ·have hyI:(y:Int)<E:=by omega
      obtain⟨g,rfl⟩:=ce hst (by omega);have hbit:=HONE.out y hy1 hyE (by omega);obtain⟨y8,hy8⟩:∃ y8,y/8=y8:=⟨_,rfl⟩;obtain⟨m,hm⟩:∃ m,y%8=m:=⟨_,rfl⟩;have hy8I:(y:Int)/8=(y8:Int):=by omega
      have hmI:(y:Int)%8=(m:Int):=by omega
      have hm8:m<8:=by omega
      have hyn8:y8<n8:=by have:=HN8.out;omega
      have hor:=HOR.out y;have hput:=HPUT.out y (by omega) hbit;have hcell:=HGET.out y (by omega);have hlt8:=HLT.out y;rw[hy8] at hor hput hcell hlt8;rw[hm] at hor hput;have hfz:=hst.own_free y8;have hcc:=hst.own_cell (i:=y8) hcell;have hset:=hst.own_set y8 (.int .u8 ((byteB false (bu px y) y8+2^(7-m):Nat):Int));rw[hput] at hset;generalize byteB false (bu px y) y8=B at*
      have hB:B ||| 128/2^m<256:=uw (n:=8) hlt8 (jh (kH _ _) (by decide))
      have horI:bits .or .u8 (B:Int) ((128:Int)/2^m)=((B+2^(7-m):Nat):Int):=by
       rw[show(128:Int)/2^m=((128/2^m:Nat):Int) by simp,u8_or_nat _ _ hlt8 (jh (kH _ _) (by decide)),hor]
      generalize B+2^(7-m)=B2 at*
      have HSET:=ac hset;clear hset hst hput hcell hy8 hm hbit hor;go_upto_region 13 with (fail)
      go_region
      go_wp2_with fail;exact⟨⟨y+1,by omega,by omega,by go_num,HSET.out.drew⟩,by simp [intOf];omega⟩
     ·obtain rfl:y=E:=by omega
      rw[← HE2.out] at hst;have HST:=ac hst;clear hst;go_wp2_with fail;exact⟨⟨k+2,by omega,by omega,by go_num,HST.out⟩,by simp [intOf];omega⟩
   ·have hk1I:¬ (k:Int)+1<nl:=by omega
    have hE:dB l W (k+1)=W:=pY (by rw[HNL.out];omega);rw[hE] at HE2 HONE hEW hxE;clear hE;go_wp2_with fail
    go_loopw [9] (fun vi wr=>∃ y:Nat,x≤y∧y≤W∧vi= .int .i64 y∧St w0 wr (own 5 1 (.slice a' n8 cap') n8 ((az false (bu px y)).map bv)*F)) (fun vi _=>W-(intOf vi).toNat)
    case atStart=>exact⟨x,Nat.le_refl _,hxE,rfl,HST.out⟩
    case round=>
     clear HST;obtain⟨y,hy1,hy2,rfl,hst⟩:=hrel
     by_cases hyE:y<W
     ·have hyI:(y:Int)<W:=by omega
      obtain⟨g,rfl⟩:=ce hst (by omega);have hbit:=HONE.out y hy1 hyE (by omega);obtain⟨y8,hy8⟩:∃ y8,y/8=y8:=⟨_,rfl⟩;obtain⟨m,hm⟩:∃ m,y%8=m:=⟨_,rfl⟩;have hy8I:(y:Int)/8=(y8:Int):=by omega
      have hmI:(y:Int)%8=(m:Int):=by omega
      have hm8:m<8:=by omega
      have hyn8:y8<n8:=by have:=HN8.out;omega
      have hor:=HOR.out y;have hput:=HPUT.out y (by omega) hbit;have hcell:=HGET.out y (by omega);have hlt8:=HLT.out y;rw[hy8] at hor hput hcell hlt8;rw[hm] at hor hput;have hfz:=hst.own_free y8;have hcc:=hst.own_cell (i:=y8) hcell;have hset:=hst.own_set y8 (.int .u8 ((byteB false (bu px y) y8+2^(7-m):Nat):Int));rw[hput] at hset;generalize byteB false (bu px y) y8=B at*
      have hB:B ||| 128/2^m<256:=uw (n:=8) hlt8 (jh (kH _ _) (by decide))
      have horI:bits .or .u8 (B:Int) ((128:Int)/2^m)=((B+2^(7-m):Nat):Int):=by
       rw[show(128:Int)/2^m=((128/2^m:Nat):Int) by simp,u8_or_nat _ _ hlt8 (jh (kH _ _) (by decide)),hor]
      generalize B+2^(7-m)=B2 at*
      have HSET:=ac hset;clear hset hst hput hcell hy8 hm hbit hor;go_upto_region 13 with (fail)
      go_region
      go_wp2_with fail;exact⟨⟨y+1,by omega,by omega,by go_num,HSET.out.drew⟩,by simp [intOf];omega⟩
     ·have hyW:y=W:=by omega
      rw[hyW,← HE2.out] at hst;have HST:=ac hst;clear hst;go_wp2_with fail;exact⟨⟨k+2,by omega,by omega,by go_num,HST.out⟩,by simp [intOf];omega⟩
  ·have hr:=hst;rw[pY (by rw[HNL.out];omega),HALL.out] at hr;have HST:=ac hr;clear hst hr;go_wp2_with fail;go_ret2;exact⟨_,rfl,HST.out⟩
end Go.Proofs.YtboflbdniogcdaaGreatDoor
