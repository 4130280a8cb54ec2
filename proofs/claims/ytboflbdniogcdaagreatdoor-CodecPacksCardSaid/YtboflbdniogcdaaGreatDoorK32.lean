/-
  Parts of a proof.
-/
import Derived.Laws.BitsAllLaws
import Derived.Test.YtboflbdniogcdaaGreatDoorK30
set_option linter.unusedVariables false
set_option linter.unusedSimpArgs false
set_option maxRecDepth 100000
set_option maxHeartbeats 100000000
namespace Go.Proofs.YtboflbdniogcdaaGreatDoor
open Go.RowKit Go.Mz
theorem Ej (c k:Nat) (hc:c<256):bits BinOp.and .u8 ((c:Int)/2^k) 1=((c/2^k%2:Nat):Int):=by
 have h:c/2^k<256:=jq (kZ _ _) hc;have e1:((c/2^k:Nat):Int)=(c:Int)/2^k:=by simp
 rw[← e1,show(1:Int)=((1:Nat):Int) from rfl,u8_and_nat _ _ h (by decide),Nat.and_one_is_mod]
theorem Ek {w:World} {v:Value} {bs:List UInt8} (hr:Reads w 1 v bs.length (bs.map bv)) (hl:bs.length≤1000000000) {x:Nat} (hx:x<8*bs.length):
  Calls Tryz.prog 91 #[v,.int .i64 (x:Int)] w fun e w'=>e= .returned (.bool ((dD bs false x:Nat)==1))∧w=w':=by
 obtain⟨a,cap,rfl⟩:=hr.sub;have hi:x/8<bs.length:=by omega
 obtain⟨b,off,rfl,hc⟩:=hr.at_ hi;have g1:(bs.map bv)[x/8]? =some (bv (bs.getD (x/8) 0)):=by rw[au,List.getD_eq_getElem?_getD,ai hi];rfl
 rw[g1] at hc;simp only[bv] at hc;have hb:(x:Int)/8<bs.length:=by omega
 have hc8:(bs.getD (x/8) 0).toNat<256:=bh _;have E:=ac (show dD bs false x=(bs.getD (x/8) 0).toNat/2^(cond false (x%8) (7-x%8))%2 from rfl);generalize (bs.getD (x/8) 0).toNat=c at*
 generalize dD bs false x=r at*
 generalize bs.length=nl at*
 clear g1 hr;go_enter Tryz.func91,Tryz.ntmps91;go_wp2_with fail;go_ret;refine⟨?_,rfl⟩;have h:=Ej c (7-x%8) hc8;have e:=E.out;simp only[cond] at e;rw[← e] at h;rw[h];have:((r:Int)==1)=(r==1):=by rw[Bool.eq_iff_iff];simp;omega
 rw[← this];rfl
theorem El:∀ (q:List Nat) (c i:Nat),Bit q→c≤1→(cc c i q).length%2=(c+gR c q)%2:=by
 intro q
 induction q with
 | nil=>intro c i _ _;simp [cc,gR];omega
 | cons x r ih=>
  intro c i hb hc;have hx:x≤1:=hb x (by simp);have hr:Bit r:=fun y hy=>hb y (by simp [hy])
  have e:gR c (x::r)=gR x r:=by unfold gR;exact List.getLastD_cons ..
  rw[e,cc]
  by_cases h:x=c
  ·subst h;rw[if_pos rfl];exact ih _ _ hr hx
  ·rw[if_neg h,aK];have:=ih x (i+1) hr hx;omega
theorem Em {q:List Nat} (hb:Bit q):(ay q).length%2=gR 0 q%2:=by
 have:=El q 0 0 hb (by omega);rw[ay];omega
theorem En {q:List Nat} (hb:Bit q) {b:Nat} (hb1:b≤1):ay (q++[b])=if(ay q).length%2=b then ay q else ay q++[q.length]:=by
 have hl:=DM hb;rw[Em hb,ay,DH,← ay,bQ]
 by_cases h:b=gR 0 q
 ·rw[if_pos (by omega)];simp [cc,h]
 ·rw[if_neg (by omega)];simp [cc,h]
theorem Eo {w0 w:World} {F:SProp} (h:St w0 w F) {bs:List UInt8} {v:Value} (hv:Stb w0 F (fun w=>Reads w 1 v bs.length (bs.map bv))) (hl:bs.length≤1000000000) {width:Nat} (hw:width≤32768) (hb:(width+7)/8≤bs.length):
  Calls Tryz.prog 43 #[v,.int .i64 (width:Int)] w fun e w'=>∃ v',e= .returned (.tuple #[v',.int .i64 0])∧St w0 w' (own 3 1 v' (ay ((aF false bs).take width)).length ((ay ((aF false bs).take width)).map nv)*F):=by
 obtain⟨a0,c0,rfl⟩:=(hv w h).sub;have HBL:=ac (fun w (h:St w0 w F) (x:Nat) (hx:x<width)=>Ek (hv w h) hl (x:=x) (by omega));have HG:=ac (fun x (hx:x<width)=>(qt false bs x (by omega)));have HBB:=ac (fun k=>(fun y hy=>kv false bs y (jo hy):Bit ((aF false bs).take k)));have HBV:=ac (fun x (hx:x<width)=>show dD bs false x≤1 from kv false bs _ (aG (qt false bs x (by omega))));have HLN:=ac (fun x (hx:x≤width)=>show((aF false bs).take x).length=x by rw[aJ,eg];omega);have hbI:¬ (bs.length:Int)<((width:Int)+7)/8:=by omega
 generalize aF false bs=p at*
 obtain⟨nl,hnl⟩:∃ nl,bs.length=nl:=⟨_,rfl⟩;rw[hnl] at hl hbI HBL ⊢;have H:=ac h;have HV:=ac hv;clear hv h hb hnl;have T:=fA;go_enter Tryz.func43,Tryz.ntmps43;go_wp2_with fail;have h1:=H.out.lit #[] 3 0 rfl (by decide);have H1:=ac (show St w0 _ (own 3 1 (.slice (some ⟨w.heap.size,0,none⟩) 0 0) 0 []*F) from h1);clear h1;generalize w.heap.size=g0 at*
 go_loopw [6,24] (fun vo vi wr=>∃ (k:Nat) (ao:Option Addr) (co:Nat) (Z:List Nat),k≤width∧vi= .int .i64 k∧vo= .slice ao Z.length co∧RowKit.Hid (Z=ay (p.take k))∧Z.length≤k∧St w0 wr (own 3 1 (.slice ao Z.length co) Z.length (Z.map nv)*F)) (fun _ vi _=>width-(intOf vi).toNat)
 case atStart=>exact⟨0,_,0,[],Nat.zero_le _,rfl,rfl,ac rfl,Nat.zero_le _,H1.out⟩
 case round=>
  clear H1 H;obtain⟨k,ao,co,Z,hk,rfl,rfl,hZ,hZl,hst⟩:=hrel
  by_cases hkn:k<width
  ·have hkI:(k:Int)<width:=by omega
   have HC:=ac (HBL.out _ hst.right k hkn);have hx:=HG.out k hkn;have hx1:=HBV.out k hkn;have hsn:=En (HBB.out k) hx1;rw[← (show p.take (k+1)=p.take k++[_] by rw[fY,hx];rfl),← hZ.out,HLN.out k hk] at hsn;have HSN:=ac hsn;have HST:=ac hst;clear hx hsn hst;generalize dD bs false k=d at*
   obtain⟨zl,hzl⟩:∃ zl,Z.length=zl:=⟨_,rfl⟩;rw[hzl] at HSN HST hZl ⊢;have HZL:=ac hzl;clear hzl
   by_cases hd:zl%2=d
   ·rcases(show d=0∨d=1 by omega) with rfl | rfl
    ·have HS2:=ac (show ay (p.take (k+1))=Z by have:=HSN.out;rwa [if_pos hd] at this);have hz:(zl:Int)%2=0:=by omega
     clear hd;go_wp2_with (go_at_call 91;refine HC.out.mono ?_;rintro e w2 ⟨rfl,rfl⟩);exact⟨⟨k+1,ao,co,Z,by omega,by go_num,by rw[HZL.out],ac HS2.out.symm,by rw[HZL.out];omega,by rw[HZL.out];exact HST.out⟩,by simp [intOf];omega⟩
    ·have HS2:=ac (show ay (p.take (k+1))=Z by have:=HSN.out;rwa [if_pos hd] at this);have hz:(zl:Int)%2=1:=by omega
     clear hd;go_wp2_with (go_at_call 91;refine HC.out.mono ?_;rintro e w2 ⟨rfl,rfl⟩);exact⟨⟨k+1,ao,co,Z,by omega,by go_num,by rw[HZL.out],ac HS2.out.symm,by rw[HZL.out];omega,by rw[HZL.out];exact HST.out⟩,by simp [intOf];omega⟩
   ·rcases(show d=0∨d=1 by omega) with rfl | rfl
    ·have HS2:=ac (show ay (p.take (k+1))=Z++[k] by have:=HSN.out;rwa [if_neg hd] at this);have hz:(zl:Int)%2=1:=by omega
     clear hd;go_upto_region 10 with (go_at_call 91;refine HC.out.mono ?_;rintro e w2 ⟨rfl,rfl⟩)
     go_wp2_with (at_builtin;apply ag);refine on (aC T rfl _ _ rfl rfl (HST.out.drop_alloc (.cells #[.int .i64 (k:Int)] 3)) rfl (oO wr k) (mQ [k]) (by unfold maxLen;omega) (by omega) ?_);intro v3 w3 h3 _;have h4:St w0 w3 (own 3 1 v3 (Z++[k]).length ((Z++[k]).map nv)*F):=by
      rw[ae,List.map_append,HZL.out];exact h3
     have hl2:(Z++[k]).length=zl+1:=by rw[ae,HZL.out];rfl
     generalize Z++[k]=Z2 at*
     obtain⟨a3,c3,rfl⟩:=h4.reads.sub;rw[hl2] at h4;have H4:=ac h4;have HL2:=ac hl2;clear h3 h4 hl2;go_wp2_with fail;exact⟨⟨k+1,a3,c3,Z2,by omega,by go_num,by rw[HL2.out],ac HS2.out.symm,by rw[HL2.out];omega,by rw[HL2.out];exact H4.out⟩,by simp [intOf];omega⟩
    ·have HS2:=ac (show ay (p.take (k+1))=Z++[k] by have:=HSN.out;rwa [if_neg hd] at this);have hz:(zl:Int)%2=0:=by omega
     clear hd;go_upto_region 10 with (go_at_call 91;refine HC.out.mono ?_;rintro e w2 ⟨rfl,rfl⟩)
     go_wp2_with (at_builtin;apply ag);refine on (aC T rfl _ _ rfl rfl (HST.out.drop_alloc (.cells #[.int .i64 (k:Int)] 3)) rfl (oO wr k) (mQ [k]) (by unfold maxLen;omega) (by omega) ?_);intro v3 w3 h3 _;have h4:St w0 w3 (own 3 1 v3 (Z++[k]).length ((Z++[k]).map nv)*F):=by
      rw[ae,List.map_append,HZL.out];exact h3
     have hl2:(Z++[k]).length=zl+1:=by rw[ae,HZL.out];rfl
     generalize Z++[k]=Z2 at*
     obtain⟨a3,c3,rfl⟩:=h4.reads.sub;rw[hl2] at h4;have H4:=ac h4;have HL2:=ac hl2;clear h3 h4 hl2;go_wp2_with fail;exact⟨⟨k+1,a3,c3,Z2,by omega,by go_num,by rw[HL2.out],ac HS2.out.symm,by rw[HL2.out];omega,by rw[HL2.out];exact H4.out⟩,by simp [intOf];omega⟩
  ·obtain rfl:k=width:=by omega
   have HST:=ac hst;clear hst;go_wp2_with fail;go_ret2;refine⟨_,rfl,?_⟩;rw[← hZ.out];exact HST.out
def dL (l:List Nat) (x:Nat):Nat:=(l.filter fun y=>decide (y≤x)).length
end Go.Proofs.YtboflbdniogcdaaGreatDoor
