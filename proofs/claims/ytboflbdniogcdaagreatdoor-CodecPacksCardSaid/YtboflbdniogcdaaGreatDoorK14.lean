/-
  Parts of a proof.
-/
import Derived.Test.YtboflbdniogcdaaGreatDoorK12
import Derived.Test.YtboflbdniogcdaaGreatDoorK08
import Derived.Test.YtboflbdniogcdaaGreatDoorK10
set_option linter.unusedVariables false
set_option linter.unusedSimpArgs false
set_option maxRecDepth 100000
set_option maxHeartbeats 100000000
namespace Go.Proofs.YtboflbdniogcdaaGreatDoor
open Go.RowKit Go.Mz
theorem BQ {w:World} {n wide:Nat} (hn:n≤4194304) (h1:1≤wide) (h2:wide≤32):
  Calls Tryz.prog 51 #[.int .i64 (n:Int),.int .i64 (wide:Int)] w fun e w'=>e= .returned (.tuple #[.int .i64 (((n*wide+7)/8:Nat):Int),.int .i64 0])∧w'=w:=by
 have hI:(n:Int)*(wide:Int)=((n*wide:Nat):Int):=by simp
 have hb:n*wide≤134217728:=dv hn h2;obtain⟨m,hm⟩:∃ m,n*wide=m:=⟨_,rfl⟩;rw[hm] at hI hb ⊢;clear hm;go_enter Tryz.func51,Tryz.ntmps51;go_wp2_with fail
 go_loopw [6] (fun va wr=>∃ a:Nat,va= .int .i64 (a:Int)∧m≤a∧a≤(m+7)/8*8∧wr=w) (fun va _=>(m+7)/8*8-(intOf va).toNat)
 case atStart=>exact⟨m,rfl,Nat.le_refl _,by omega,rfl⟩
 case round=>
  obtain⟨a,rfl,ha1,ha2,rfl⟩:=hrel
  by_cases h8:a%8=0
  ·have h8I:((a:Int)%8 != 0)=false:=by
    have:(a:Int)%8=0:=by omega
    simp [this]
   have hq:(a:Int)/8=(((m+7)/8:Nat):Int):=by omega
   go_wp2_with fail;go_ret2;refine⟨?_,by first | rfl | trivial⟩
   first | rfl | rw[hq] | simp [hq]
  ·have h8I:((a:Int)%8 != 0)=true:=by
    have:¬ (a:Int)%8=0:=by omega
    simp [this]
   go_wp2_with fail;exact⟨⟨a+1,by go_num,by omega,by omega,by first | rfl | trivial⟩,by simp [intOf];omega⟩
theorem BR {v wide:Nat} (h:v<2^wide) (hw:wide≤32):aX ((ap v 32).take (32-wide))=0:=by
 have e:ap v 32=ap (v/2^wide) (32-wide)++ap v wide:=by rw[← Al];congr 1;omega
 rw[e,lf (by simp),mj,fv h];simp
theorem uw {w0 w:World} {F:SProp} (h:St w0 w F) {l:List Nat} {v:Value} (hv:Stb w0 F (fun w=>Reads w 1 v l.length (l.map uv))) (hl:l.length≤100000) {wide:Nat} (h1:1≤wide) (h2:wide≤32) (hall:∀ x∈l,x<2^wide) (big:Bool):
  Calls Tryz.prog 24 #[v,.int .i64 (wide:Int),.bool big] w fun e w'=>e= .returned (.tuple #[.string ⟨(bF wide big l).toArray⟩,.int .i64 0])∧St w0 w' F:=by
 obtain⟨a0,c0,rfl⟩:=(hv w h).sub;obtain⟨L,hL⟩:∃ L,l.length=L:=⟨_,rfl⟩;rw[hL] at hv hl ⊢;have HSZ:=ac (fun w=>BQ (w:=w) (n:=L) (by omega) h1 h2);have HV:=ac hv;have HLL:=ac hL;have HALL:=ac hall;have H:=ac h;clear hv hL hall h;obtain⟨A,hA⟩:∃ A:Nat→List UInt8,∀ k,A k=if cO wide=true then ff wide big (l.take k) else []:=⟨fun k=>_,fun k=>rfl⟩
 obtain⟨B,hB⟩:∃ B:Nat→List Nat,∀ k,B k=if cO wide=true then [] else dy wide (l.take k):=⟨fun k=>_,fun k=>rfl⟩
 have HA0:=ac (show A 0=[] by rw[hA];simp [ff]);have HB0:=ac (show B 0=[] by rw[hB];simp [dy]);have HBB:=ac (show ∀ k,Bit (B k) by
  intro k;rw[hB]
  by_cases hw:cO wide=true
  ·rw[if_pos hw];intro x hx;cases hx
  ·rw[if_neg hw];unfold dy;intro x hx;obtain⟨y,_,hy⟩:=iS.1 hx;exact tN false y wide x hy)
 have HBL:=ac (show ∀ k,(B k).length≤1000000000 by
  intro k;rw[hB]
  by_cases hw:cO wide=true
  ·rw[if_pos hw];exact Nat.zero_le _
  ·rw[if_neg hw,lu];have:(l.take k).length≤L:=by rw[← HLL.out];simp;omega
   have h3:=dv (cX this hl) h2;omega)
 have HAL:=ac (show ∀ k,(A k).length≤1000000000 by
  intro k;rw[hA]
  by_cases hw:cO wide=true
  ·rw[if_pos hw,nW];have:(l.take k).length≤L:=by rw[← HLL.out];simp;omega
   have h3:=dv (cX this hl) (show wide/8≤4 by omega);omega
  ·rw[if_neg hw];exact Nat.zero_le _)
 have HFIN:=ac (show A L++aq false (B L)=bF wide big l by
  rw[hA,hB,← HLL.out,bF,cI]
  by_cases hw:cO wide=true
  ·rw[if_pos hw,if_pos hw,if_pos hw];simp [aq]
  ·rw[if_neg hw,if_neg hw,if_neg hw];simp)
 have HTA:=ac (fun(k x:Nat) (hx:l[k]? =some x) (hw:cO wide=true)=>show A (k+1)=A k++dx big x (wide/8)∧B (k+1)=B k by
  rw[hA,hA,hB,hB,if_pos hw,if_pos hw,if_pos hw,if_pos hw,fZ hx,ud];exact⟨rfl,rfl⟩)
 have HTB:=ac (fun(k x:Nat) (hx:l[k]? =some x) (hw:¬ cO wide=true)=>show A (k+1)=A k∧B (k+1)=B k++ap x wide by
  rw[hA,hA,hB,hB,if_neg hw,if_neg hw,if_neg hw,if_neg hw,fZ hx,ue];exact⟨rfl,rfl⟩)
 clear hA hB;go_enter Tryz.func24,Tryz.ntmps24;go_wp2_with (go_at_call 51;refine(HSZ.out _).mono ?_;rintro e w1 ⟨rfl,rfl⟩)
 go_loopw [10,11,12] (fun vs vt vi wr=>∃ k:Nat,k≤L∧vi= .int .i64 (k:Int)∧vs= .string ⟨(A k).toArray⟩∧vt= .string ⟨(tx (B k)).toArray⟩∧St w0 wr F) (fun _ _ vi _=>L-(intOf vi).toNat)
 case atStart=>exact⟨0,Nat.zero_le _,rfl,by rw[HA0.out],by rw[HB0.out];rfl,H.out⟩
 case round=>
  clear H HSZ;obtain⟨k,hk,rfl,rfl,rfl,hst⟩:=hrel
  by_cases hkn:k<L
  ·have hkI:(k:Int)<L:=by omega
   obtain⟨x,hx⟩:∃ x,l[k]? =some x:=⟨l[k]'(by rw[HLL.out];exact hkn),ai _⟩;obtain⟨b,off,rfl,hc⟩:=(HV.out _ hst).at_ hkn;rw[au,hx] at hc;have hc:wr.cell? ⟨b,off+k,none⟩=some (.int .u32 (x:Int)):=hc;have HCL:=ac (fun(w:World) (h:St w0 w F)=>show w.cell? ⟨b,off+k,none⟩=some (.int .u32 (x:Int)) by
    obtain⟨b',off',ee,hc'⟩:=(HV.out w h).at_ hkn;cases ee;rw[au,hx] at hc';exact hc')
   have hxw:=HALL.out x (aG hx);have hx32:x<4294967296:=kp hxw (cX (dX (by decide) h2) (by decide));have hxu:IntKind.u64.wrap (x:Int)=(x:Int):=IntWalk.u64_in _ (by omega);have HW32:=ac (fun(w:World) (h:St w0 w F)=>qz x 32 h rfl rfl hx32 (Nat.le_refl _));have HWW:=ac (fun(w:World) (h:St w0 w F)=>qz x wide h rfl rfl hx32 h2);have hz:=BR hxw h2;have hex:ByteArray.extract ⟨(tx (ap x 32)).toArray⟩ 0 (32-wide)=⟨(tx ((ap x 32).take (32-wide))).toArray⟩:=by
    rw[ByteArray.extract_mk (tx (ap x 32)) 0 (32-wide),jO,jP,← mh]
   have hbt:Bit ((ap x 32).take (32-wide)):=(da x 32).take _;have HNU:=ac (fun(w:World)=>lr w hbt (by rw[aJ];omega) hex);rw[hz] at HNU;have HTA1:=ac (HTA.out k x hx);have HTB1:=ac (HTB.out k x hx);have hsz:(ByteArray.mk (tx (ap x 32)).toArray).size=32:=by simp [ByteArray.size]
   have hAk:=HAL.out k;have hBk:=HBL.out k;have hOk:(dx big x (wide/8)).length≤4:=by rw[jV];omega
   have HST:=ac hst;have hwI:(32:Int)-(wide:Int)=((32-wide:Nat):Int):=by omega
   obtain⟨ty,hty⟩:∃ ty:ByteArray,ty=⟨(tx (ap x 32)).toArray⟩:=⟨_,rfl⟩;rw[← hty] at hsz HNU HW32;clear hz hex hbt hx hty hst
   by_cases hw:cO wide=true
   ·obtain⟨hA1,hB1⟩:=HTA1.out hw;have h16:wide=16∨wide=32:=by simpa [cO] using hw
    obtain⟨n8,hn8⟩:∃ n8,wide/8=n8:=⟨_,rfl⟩;have htd:Int.tdiv (wide:Int) 8=(n8:Int):=by rw[Int.tdiv_eq_ediv_of_nonneg (by omega)];omega
    have hn8b:n8≤4:=by omega
    rw[hn8] at hA1 hOk;have HPT:=ac (fun(w:World) (h:St w0 w F)=>AR h (v:=x) (n:=n8) (by rcases h16 with e | e;exact .inr (.inl (by omega));exact .inr (.inr (.inl (by omega)))) (by rcases h16 with e | e;(rw[e] at hxw hn8;rw[← hn8];exact hxw);(rw[e] at hxw hn8;rw[← hn8];exact hxw)) big);have HA1:=ac hA1;have HB1:=ac hB1;have hbb:(((wide:Int)==16)=true∧True)∨(((wide:Int)==16)=false∧((wide:Int)==32)=true):=by
     rcases h16 with e | e
     ·exact .inl ⟨by simp;omega,trivial⟩
     ·exact .inr ⟨by simp;omega,by simp;omega⟩
    clear hA1 hB1 HTA1 HTB1 hw h16 hn8
    rcases hbb with ⟨hb1,_⟩ | ⟨hb1,hb2⟩
    all_goals
     go_wp2_with (first
      | (go_at_call 53;refine(HW32.out _ HST.out).mono ?_;rintro e w2 ⟨rfl,h2⟩;have hc2:=HCL.out _ h2;have H2:=ac h2;clear h2 HW32 HST hc)
      | (go_at_call 52;refine(HNU.out _).mono ?_;rintro e w3 ⟨rfl,rfl⟩)
      | (go_at_call 54;refine(HPT.out _ H2.out).mono ?_;rintro e w4 ⟨rfl,h4⟩;have H4:=ac h4;clear h4 HPT H2))
     refine⟨⟨k+1,by omega,by go_num,?_,by rw[HB1.out],H4.out⟩,by simp [intOf];omega⟩;rw[HA1.out];exact congrArg Value.string (ByteArray.mk_append_mk _ _)
   ·have hw':cO wide=false:=by simpa using hw
    obtain⟨hA1,hB1⟩:=HTB1.out hw;have hb1:((wide:Int)==16)=false:=by simp;intro e;apply hw;simp [cO];omega
    have hb2:((wide:Int)==32)=false:=by simp;intro e;apply hw;simp [cO];omega
    have HA1:=ac hA1;have HB1:=ac hB1;clear hA1 hB1 HTA1 HTB1 hw;go_wp2_with (first
     | (go_at_call 53;refine(HWW.out _ H2.out).mono ?_;rintro e w4 ⟨rfl,h4⟩;have H4:=ac h4;clear h4 HWW H2)
     | (go_at_call 53;refine(HW32.out _ HST.out).mono ?_;rintro e w2 ⟨rfl,h2⟩;have hc2:=HCL.out _ h2;have H2:=ac h2;clear h2 HW32 HST hc)
     | (go_at_call 52;refine(HNU.out _).mono ?_;rintro e w3 ⟨rfl,rfl⟩))
    refine⟨⟨k+1,by omega,by go_num,by rw[HA1.out],?_,H4.out⟩,by simp [intOf];omega⟩;rw[HB1.out,cZ];exact congrArg Value.string (ByteArray.mk_append_mk _ _)
  ·obtain rfl:k=L:=by omega
   have hAk:=HAL.out k;have hBk:=HBL.out k;have HBY:=ac (jW (HBB.out k) false hst (HBL.out k) rfl);clear hst;go_wp2_with (go_at_call 55;refine HBY.out.mono ?_;rintro e w2 ⟨rfl,h2⟩;have H2:=ac h2;clear h2 HBY);go_ret2;refine⟨?_,H2.out⟩;rw[← HFIN.out];exact congrArg (fun z=>Ending.returned (Value.tuple #[Value.string z,.int .i64 0])) (ByteArray.mk_append_mk _ _)
theorem tP {bits:List Nat} {old:Bool} {s:LS} (h:bits.length<s.p+cg s.L.length old):codeS bits old s=(s,[],false,2):=by
 rw[codeS,if_pos h]
section
variable {bits:List Nat} {old:Bool} {L:List Txt} {a:Txt} {p c W:Nat} (hW:cg L.length old=W) (h0:¬ bits.length<p+W) (hc:bq bits old ⟨L,a,p⟩=c)
include hW h0 hc
theorem nN (h:c=256):codeS bits old ⟨L,a,p⟩=(⟨aV,[],p+W⟩,[],false,0):=by
 subst hW hc;rw[codeS,if_neg h0,if_pos h]
theorem nO (h:c=257):codeS bits old ⟨L,a,p⟩=(⟨L,a,p+W⟩,[],true,0):=by
 subst hW hc;rw[codeS,if_neg h0,if_neg (by omega),if_pos h]
theorem tQ (h1:¬ c=256) (h2:¬ c=257) (ha:a=[]) (h:255<c):codeS bits old ⟨L,a,p⟩=(⟨L,a,p+W⟩,[],false,6):=by
 subst hW hc;rw[codeS,if_neg h0,if_neg h1,if_neg h2,if_pos ⟨ha,h⟩]
theorem qB (h1:¬ c=256) (h2:¬ c=257) (ha:a=[]) (h:¬ 255<c) {t:Txt} (ht:L[c]? =some t):codeS bits old ⟨L,a,p⟩=(⟨L,t,p+W⟩,t,false,0):=by
 subst hW hc;have:L.getD (bq bits old ⟨L,a,p⟩) []=t:=by rw[List.getD_eq_getElem?_getD,ht];rfl
 rw[codeS,if_neg h0,if_neg h1,if_neg h2,if_neg (fun h'=>h h'.2),if_pos ha,this]
theorem tR (h1:¬ c=256) (h2:¬ c=257) (ha:a≠[]) (h:L.length<c∨c=L.length∧4096≤L.length):codeS bits old ⟨L,a,p⟩=(⟨L,a,p+W⟩,[],false,6):=by
 subst hW hc;rw[codeS,if_neg h0,if_neg h1,if_neg h2,if_neg (fun h'=>ha h'.1),if_neg ha,if_pos h]
theorem tS (h1:¬ c=256) (h2:¬ c=257) (ha:a≠[]) (h:c<L.length) (hf:¬ L.length<4096) {t:Txt} (ht:L[c]? =some t):codeS bits old ⟨L,a,p⟩=(⟨L,t,p+W⟩,t,false,0):=by
 subst hW hc;have:L.getD (bq bits old ⟨L,a,p⟩) []=t:=by rw[List.getD_eq_getElem?_getD,ht];rfl
 rw[codeS,if_neg h0,if_neg h1,if_neg h2,if_neg (fun h'=>ha h'.1),if_neg ha,if_neg (show ¬ (L.length<bq bits old ⟨L,a,p⟩∨bq bits old ⟨L,a,p⟩=L.length∧4096≤L.length) by omega)];simp only[if_pos h,if_neg hf,this]
theorem qC (h1:¬ c=256) (h2:¬ c=257) (ha:a≠[]) (h:c<L.length) (hf:L.length<4096) {d:UInt8} {t:Txt} (ht:L[c]? =some (d::t)):codeS bits old ⟨L,a,p⟩=(⟨L++[a++[d]],d::t,p+W⟩,d::t,false,0):=by
 subst hW hc;have:L.getD (bq bits old ⟨L,a,p⟩) []=d::t:=by rw[List.getD_eq_getElem?_getD,ht];rfl
 rw[codeS,if_neg h0,if_neg h1,if_neg h2,if_neg (fun h'=>ha h'.1),if_neg ha,if_neg (show ¬ (L.length<bq bits old ⟨L,a,p⟩∨bq bits old ⟨L,a,p⟩=L.length∧4096≤L.length) by omega)];simp only[if_pos h,if_pos hf,this];rfl
theorem qD (h1:¬ c=256) (h2:¬ c=257) {d:UInt8} {t:Txt} (ha:a=d::t) (h:c=L.length) (hf:L.length<4096):codeS bits old ⟨L,a,p⟩=(⟨L++[a++[d]],a++[d],p+W⟩,a++[d],false,0):=by
 subst hW hc;have ha':a≠[]:=by rw[ha];simp
 rw[codeS,if_neg h0,if_neg h1,if_neg h2,if_neg (fun h'=>ha' h'.1),if_neg ha',if_neg (show ¬ (L.length<bq bits old ⟨L,a,p⟩∨bq bits old ⟨L,a,p⟩=L.length∧4096≤L.length) by omega)];rw[ha] at*
 simp only[if_neg (show ¬ bq bits old ⟨L,d::t,p⟩<L.length by omega),if_pos hf];rfl
end
end Go.Proofs.YtboflbdniogcdaaGreatDoor
