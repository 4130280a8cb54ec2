/-
  Parts of a proof.
-/
import Derived.Test.YtboflbdniogcdaaGreatDoorFld
import Derived.Test.YtboflbdniogcdaaGreatDoorK26
import Derived.Test.YtboflbdniogcdaaGreatDoorK21
set_option linter.unusedVariables false
set_option linter.unusedSimpArgs false
set_option maxRecDepth 100000
set_option maxHeartbeats 100000000
namespace Go.Proofs.YtboflbdniogcdaaGreatDoor
open Go.RowKit Go.Mz
set_option maxRecDepth 1000000
theorem kH (w:World) (x:Int):Reads (w.alloc (.cells #[.int .i64 x] 3)) 1 (.slice (some ⟨w.heap.size,0,none⟩) 1 1) 1 ([x].map iv):=
 (St.own_blk (e:=3) (size:=1) (n:=1) (cap:=1) (xs:=[x].map iv) ((St.init w).alloc _) (Nat.le_refl _) (by decide) rfl rfl).reads
def eu (w0:World) (F:SProp):Prop:=Stb w0 F (fun w=>Lib.TabIs Tryz.prog w "strings.asciiSpace" .u8 Lib.asciiSpaceTab)
theorem ry {w0 w:World} {F:SProp} (h:St w0 w F) (ht:eu w0 F) (s:ByteArray) (ls:List (List UInt8)) (hf:Lib.fields s.data.toList=ls) (hs:s.size<4294967281) (ha:∀ b∈s.data.toList,b.toNat<128) (hl:ls.length≤100000):
  Calls Tryz.prog 174 #[.string s] w fun e w'=>∃ v,e= .returned v∧St w0 w' (own 9 1 v ls.length (ls.map aQ)*F):=by
 refine(Tryz.strings_Fields s w hs (fun j b hb=>ha b (aG hb)) (ht w h)).mono ?_;rintro e w' ⟨rfl,rfl⟩;rw[hf];refine⟨_,rfl,?_⟩;exact St.own_blk (h.alloc _) (Nat.le_refl _) (by unfold maxLen;omega) (by simp) (by
  simp only[gW];rw[bU (by simp)];rfl)
theorem Dp {w0 w:World} {F:SProp} (h:St w0 w F) (ht:eu w0 F):
  Calls Tryz.prog 139 #[] w fun e w'=>∃ vw vm,e= .returned (.tuple #[vw,vm])∧St w0 w' (own 9 1 vw 10 (aL.map aD)*(own 196 1 vm 10 (gf.map iv)*F)):=by
 have H:=ac h;clear h;have HT:=ac ht;clear ht;go_enter Tryz.func139,Tryz.ntmps139;go_wp2_with fail;refine(ry H.out HT.out _ (aL.map tx) (by decide +kernel) (by decide +kernel) (by decide +kernel) (by decide)).mono ?_;rintro e w2 ⟨v2,rfl,h2⟩;obtain⟨a2,c2,rfl⟩:=h2.reads.sub;have h3:=h2.lit #[.int .i64 (-3),.int .i64 (-2),.int .i64 (-1),.int .i64 0,.int .i64 1,.int .i64 2,.int .i64 3,.int .i64 4,.int .i64 5,.int .i64 6] 196 10 rfl (by decide);have H3:=ac h3;clear h2 h3;go_wp2_with fail;go_ret2;refine⟨_,_,rfl,?_⟩;have h4:=H3.out.perm (af _ _ _);have e:(aL.map tx).map aQ=aL.map aD:=by rw[eF];rfl
 rw[e] at h4;exact h4
theorem vA {k:Nat} (h:k<104):(bx.take (k+1)).map iv=(bx.take k).map iv++[((gE k:Nat):Int)].map iv:=by
 have hx:bx[k]? =some ((gE k:Nat):Int):=by rw[bx,au,fs h];rfl
 rw[fY,hx,← List.map_append];rfl
theorem vB {w0 w:World} {F:SProp} (h:St w0 w F) (ht:eu w0 F) (black:Bool):
  Calls Tryz.prog 137 #[.bool black] w fun e w'=>∃ vw vl,e= .returned (.tuple #[vw,vl])∧St w0 w' (own 3 1 vl 104 (bx.map iv)*(own 9 1 vw 104 ((aI black).map aD)*F)):=by
 have H:=ac h;clear h;have HT:=ac ht;clear ht;cases black
 ·go_enter Tryz.func137,Tryz.ntmps137;go_wp2_with fail;refine(ry H.out HT.out _ ((aI false).map tx) (by decide +kernel) (by decide +kernel) (by decide +kernel) (by decide +kernel)).mono ?_;rintro e w2 ⟨v2,rfl,h2⟩;have e2:((aI false).map tx).map aQ=(aI false).map aD:=by rw[eF];rfl
  have l2:((aI false).map tx).length=104:=by rw[bI,jE]
  rw[e2,l2] at h2;obtain⟨a2,c2,rfl⟩:=h2.reads.sub;have H2:=ac (St.own_nil 3 1 h2);clear h2 e2 l2;obtain⟨FW,hFW⟩:∃ FW,FW=aI false:=⟨_,rfl⟩;rw[← hFW] at H2;have HFW:=ac hFW;clear hFW;have T:=fA;go_wp2_with fail
  go_loopw [7,19] (fun vo vi wr=>∃ (k:Nat) (ao:Option Addr) (co:Nat),k≤104∧vi= .int .i64 k∧vo= .slice ao k co∧St w0 wr (own 3 1 (.slice ao k co) k ((bx.take k).map iv)*(own 9 1 (.slice a2 104 c2) 104 (FW.map aD)*F))) (fun _ vi _=>104-(intOf vi).toNat)
  case atStart=>exact⟨0,none,0,by omega,rfl,rfl,H2.out⟩
  case round=>
   clear H2;obtain⟨k,ao,co,hk,rfl,rfl,hst⟩:=hrel
   by_cases hk4:k<104
   ·have hk5:(k:Int)<104:=by omega
    have HX:=ac (vA hk4);have HST:=ac hst;clear hst
    by_cases h64:k<64
    ·have h64':(k:Int)<64:=by omega
     have HL:=ac (show gE k=k by rw[gE,if_pos h64]);go_wp2_with (at_builtin;apply ag);refine on (aC T rfl _ _ rfl rfl (HST.out.drop_alloc (.cells #[.int .i64 (k:Int)] 3)) rfl (kH wr k) (dS [(k:Int)]) ?_ ?_ ?_)
     ·unfold maxLen;omega
     ·omega
     intro v' w7 h9 _;rw[HL.out] at HX;rw[← HX.out] at h9;obtain⟨aN,cN,rfl⟩:=h9.reads.sub;have H9:=ac h9;clear h9;go_wp2_with fail;exact⟨⟨k+1,aN,cN,by omega,by go_num,rfl,H9.out⟩,by simp [intOf];omega⟩
    ·have h64':¬ (k:Int)<64:=by omega
     have HL:=ac (show gE k=64*(k-63) by rw[gE,if_neg h64]);have hs1:(k:Int)-63=((k-63:Nat):Int):=by omega
     obtain⟨m,hm⟩:∃ m,m=64*(k-63):=⟨_,rfl⟩;have hs2:(64:Int)*((k-63:Nat):Int)=(m:Int):=by omega
     have hm9:m≤3000:=by omega
     rw[HL.out,← hm] at HX;clear hm HL;generalize k-63=j at*
     go_wp2_with (at_builtin;apply ag);refine on (aC T rfl _ _ rfl rfl (HST.out.drop_alloc (.cells #[.int .i64 (m:Int)] 3)) rfl (kH wr m) (dS [(m:Int)]) ?_ ?_ ?_)
     ·unfold maxLen;omega
     ·omega
     intro v' w7 h9 _;rw[← HX.out] at h9;obtain⟨aN,cN,rfl⟩:=h9.reads.sub;have H9:=ac h9;clear h9;go_wp2_with fail;exact⟨⟨k+1,aN,cN,by omega,by go_num,rfl,H9.out⟩,by simp [intOf];omega⟩
   ·obtain rfl:k=104:=by omega
    have e:bx.take 104=bx:=bU (by rw[rx];omega);rw[e] at hst;have HST:=ac hst;clear hst;go_wp2_with fail;go_ret2;exact⟨.slice a2 104 c2,.slice ao 104 co,rfl,by rw[← HFW.out];exact HST.out⟩
 ·go_enter Tryz.func137,Tryz.ntmps137;go_wp2_with fail;refine(ry H.out HT.out _ ((aI true).map tx) (by decide +kernel) (by decide +kernel) (by decide +kernel) (by decide +kernel)).mono ?_;rintro e w2 ⟨v2,rfl,h2⟩;have e2:((aI true).map tx).map aQ=(aI true).map aD:=by rw[eF];rfl
  have l2:((aI true).map tx).length=104:=by rw[bI,jE]
  rw[e2,l2] at h2;obtain⟨a2,c2,rfl⟩:=h2.reads.sub;have H2:=ac (St.own_nil 3 1 h2);clear h2 e2 l2;obtain⟨FW,hFW⟩:∃ FW,FW=aI true:=⟨_,rfl⟩;rw[← hFW] at H2;have HFW:=ac hFW;clear hFW;have T:=fA;go_wp2_with fail
  go_loopw [7,19] (fun vo vi wr=>∃ (k:Nat) (ao:Option Addr) (co:Nat),k≤104∧vi= .int .i64 k∧vo= .slice ao k co∧St w0 wr (own 3 1 (.slice ao k co) k ((bx.take k).map iv)*(own 9 1 (.slice a2 104 c2) 104 (FW.map aD)*F))) (fun _ vi _=>104-(intOf vi).toNat)
  case atStart=>exact⟨0,none,0,by omega,rfl,rfl,H2.out⟩
  case round=>
   clear H2;obtain⟨k,ao,co,hk,rfl,rfl,hst⟩:=hrel
   by_cases hk4:k<104
   ·have hk5:(k:Int)<104:=by omega
    have HX:=ac (vA hk4);have HST:=ac hst;clear hst
    by_cases h64:k<64
    ·have h64':(k:Int)<64:=by omega
     have HL:=ac (show gE k=k by rw[gE,if_pos h64]);go_wp2_with (at_builtin;apply ag);refine on (aC T rfl _ _ rfl rfl (HST.out.drop_alloc (.cells #[.int .i64 (k:Int)] 3)) rfl (kH wr k) (dS [(k:Int)]) ?_ ?_ ?_)
     ·unfold maxLen;omega
     ·omega
     intro v' w7 h9 _;rw[HL.out] at HX;rw[← HX.out] at h9;obtain⟨aN,cN,rfl⟩:=h9.reads.sub;have H9:=ac h9;clear h9;go_wp2_with fail;exact⟨⟨k+1,aN,cN,by omega,by go_num,rfl,H9.out⟩,by simp [intOf];omega⟩
    ·have h64':¬ (k:Int)<64:=by omega
     have HL:=ac (show gE k=64*(k-63) by rw[gE,if_neg h64]);have hs1:(k:Int)-63=((k-63:Nat):Int):=by omega
     obtain⟨m,hm⟩:∃ m,m=64*(k-63):=⟨_,rfl⟩;have hs2:(64:Int)*((k-63:Nat):Int)=(m:Int):=by omega
     have hm9:m≤3000:=by omega
     rw[HL.out,← hm] at HX;clear hm HL;generalize k-63=j at*
     go_wp2_with (at_builtin;apply ag);refine on (aC T rfl _ _ rfl rfl (HST.out.drop_alloc (.cells #[.int .i64 (m:Int)] 3)) rfl (kH wr m) (dS [(m:Int)]) ?_ ?_ ?_)
     ·unfold maxLen;omega
     ·omega
     intro v' w7 h9 _;rw[← HX.out] at h9;obtain⟨aN,cN,rfl⟩:=h9.reads.sub;have H9:=ac h9;clear h9;go_wp2_with fail;exact⟨⟨k+1,aN,cN,by omega,by go_num,rfl,H9.out⟩,by simp [intOf];omega⟩
   ·obtain rfl:k=104:=by omega
    have e:bx.take 104=bx:=bU (by rw[rx];omega);rw[e] at hst;have HST:=ac hst;clear hst;go_wp2_with fail;go_ret2;exact⟨.slice a2 104 c2,.slice ao 104 co,rfl,by rw[← HFW.out];exact HST.out⟩
set_option maxRecDepth 1000000
def iK:List UInt8→List UInt8→List (List UInt8)
 | w,[]=>[w]
 | w,c::r=>if c=32 then w::iK [] r else iK (w++[c]) r
theorem kI {a b:ByteArray} (h:a.data.toList=b.data.toList):a=b:=by
 obtain⟨⟨a⟩⟩:=a;obtain⟨⟨b⟩⟩:=b;cases h;rfl
theorem Dq:ElemT Tryz.prog 38 9 1 16 (.string ByteArray.empty):=
 ⟨Tryz.underlying38,info_parts (by kernel_rfl),rfl,by decide⟩
theorem vC (w:World) (x:List UInt8):Reads (w.alloc (.cells #[.string ⟨x.toArray⟩] 9)) 1 (.slice (some ⟨w.heap.size,0,none⟩) 1 1) 1 ([x].map aQ):=
 (St.own_blk (e:=9) (size:=1) (n:=1) (cap:=1) (xs:=[x].map aQ) ((St.init w).alloc _) (Nat.le_refl _) (by decide) rfl rfl).reads
theorem vD (l:List (List UInt8)):∀ u∈l.map aQ,u.oneCell'=true:=by
 intro u hu;rw[bW] at hu;obtain⟨x,_,rfl⟩:=hu;rfl
theorem rz {w0 w:World} {F:SProp} (h:St w0 w F) (s:List UInt8) (hs:s.length≤100000) {sb:ByteArray} (hsb:sb=⟨s.toArray⟩):
  Calls Tryz.prog 147 #[.string sb] w fun e w'=>∃ v,e= .returned v∧St w0 w' (own 9 1 v (iK [] s).length ((iK [] s).map aQ)*F):=by
 subst hsb;have H:=ac (St.own_nil 9 1 h);clear h;have T:=Dq;generalize hRES:iK [] s=RES at*
 have HRES:=ac hRES;clear hRES;go_enter Tryz.func147,Tryz.ntmps147;go_wp2_with fail
 go_loopw [3,4,5] (fun vo vs vi wr=>∃ (k:Nat) (ws:List (List UInt8)) (x:List UInt8) (a:Option Addr) (c:Nat),k≤s.length∧vi= .int .i64 k∧vo= .slice a ws.length c∧vs= .string ⟨x.toArray⟩∧ws.length≤k∧x.length≤k∧ws++iK x (s.drop k)=RES∧
  St w0 wr (own 9 1 (.slice a ws.length c) ws.length (ws.map aQ)*F)) (fun _ _ vi _=>s.length-(intOf vi).toNat)
 case atStart=>exact⟨0,[],[],none,0,by omega,rfl,rfl,rfl,by simp,by simp,HRES.out,H.out⟩
 case round=>
  clear H HRES;obtain⟨k,ws,x,a,c,hk,rfl,rfl,rfl,hwk,hxk,hres,hst⟩:=hrel;have HST:=ac hst;clear hst
  by_cases hkn:k<s.length
  ·have hg:=ai hkn;rw[cC hkn,iK] at hres;have hkz:(k:Int)<s.length:=by omega
   have G:=fun h=>gu hg h
   have hext:ByteArray.extract ⟨s.toArray⟩ k (k+1)=⟨#[s[k]]⟩:=by
    rw[ByteArray.extract_mk,pX,cC hkn];rfl
   have HEXT:=ac hext;clear hext hg;generalize s[k]=ch at*
   by_cases h32:ch=32
   ·rw[if_pos h32] at hres;have n1:((ch.toNat:Int) != 32)=false:=by rw[h32];rfl
    have HR:=ac hres;clear hres h32 HEXT;go_wp2_with (at_builtin;apply ag);refine on (aC T rfl _ _ rfl rfl (HST.out.drop_alloc (.cells #[.string ⟨x.toArray⟩] 9)) rfl (vC wr x) (vD [x]) ?_ ?_ ?_)
    ·unfold maxLen;omega
    ·omega
    intro v' w7 h9 _;rw[← List.map_append] at h9;obtain⟨aN,cN,rfl⟩:=h9.reads.sub;have e1:(ws++[x]).length=ws.length+1:=by simp
    rw[← e1] at h9;have H9:=ac h9;clear h9;go_wp2_with fail;exact⟨⟨k+1,ws++[x],[],aN,cN,by omega,by go_num,by rw[e1],rfl,by rw[e1];omega,by simp,by rw[List.append_assoc];exact HR.out,H9.out⟩,by simp [intOf];omega⟩
   ·rw[if_neg h32] at hres;have n1:((ch.toNat:Int) != 32)=true:=Am (d:=32) h32;have HR:=ac hres;clear hres h32;obtain⟨k1,hk1⟩:∃ k1,k1=k+1:=⟨_,rfl⟩;rw[← hk1] at HR HEXT;have hk1i:(k:Int)+1=(k1:Int):=by omega
    have hk1s:k1≤s.length:=by omega
    have hk1z:(k1:Int)≤s.length:=by omega
    have hkk1:k≤k1:=by omega
    have hkk2:(k:Int)≤k1:=by omega
    have hx9:x.length≤100000:=by omega
    have HK1:=ac hk1;clear hk1;have hsz:s.toArray.size=s.length:=by simp
    go_wp2_with fail;have hk1:=HK1.out;refine⟨⟨k1,ws,x++[ch],a,c,by omega,?_,rfl,?_,by omega,by simp;omega,HR.out,HST.out⟩,by simp [intOf];omega⟩
    ·first | rfl | (rw[hk1i]) | go_num
    ·rw[HEXT.out];exact congrArg Value.string (ByteArray.mk_append_mk x [ch])
  ·obtain rfl:k=s.length:=by omega
   rw[iT,iK] at hres;have HR:=ac hres;clear hres;go_wp2_with (at_builtin;apply ag);refine on (aC T rfl _ _ rfl rfl (HST.out.drop_alloc (.cells #[.string ⟨x.toArray⟩] 9)) rfl (vC wr x) (vD [x]) ?_ ?_ ?_)
   ·unfold maxLen;omega
   ·omega
   intro v' w7 h9 _;rw[← List.map_append] at h9;have e1:(ws++[x]).length=ws.length+1:=by simp
   rw[← e1,HR.out] at h9;have H9:=ac h9;clear h9;go_wp2_with fail;go_ret;exact⟨_,rfl,H9.out⟩
theorem vE {w0 w:World} {F:SProp} (h:St w0 w F):
  Calls Tryz.prog 108 #[] w fun e w'=>∃ v,e= .returned v∧St w0 w' (own 9 1 v 10 (aL.map aD)*F):=by
 have e2:(aL.map tx).map aQ=aL.map aD:=by rw[eF];rfl
 have H:=ac h;clear h;go_enter Tryz.func108,Tryz.ntmps108;go_wp2_with fail;refine(rz H.out (kF (aL.map tx)) (by decide +kernel) (kI (by decide +kernel))).mono ?_;rintro e w2 ⟨v2,rfl,h2⟩;have e3:iK [] (kF (aL.map tx))=aL.map tx:=by decide +kernel
 rw[e3,e2] at h2;have H2:=ac h2;clear h2 e2 e3;go_wp2_with fail;go_ret;exact⟨_,rfl,H2.out⟩
theorem Dr {w0 w:World} {F:SProp} (h:St w0 w F) (black:Bool):
  Calls Tryz.prog 146 #[.bool black] w fun e w'=>∃ v,e= .returned v∧St w0 w' (own 9 1 v 104 ((aI black).map aD)*F):=by
 have H:=ac h;clear h;cases black
 ·go_enter Tryz.func146,Tryz.ntmps146;go_wp2_with fail;refine(rz H.out (kF ((aI false).map tx)) (by decide +kernel) (kI (by decide +kernel))).mono ?_;rintro e w2 ⟨v2,rfl,h2⟩;have e2:((aI false).map tx).map aQ=(aI false).map aD:=by rw[eF];rfl
  have e3:iK [] (kF ((aI false).map tx))=(aI false).map tx:=by decide +kernel
  rw[e3,e2,bI,jE] at h2;have H2:=ac h2;clear h2 e2 e3;go_wp2_with fail;go_ret;exact⟨_,rfl,H2.out⟩
 ·go_enter Tryz.func146,Tryz.ntmps146;go_wp2_with fail;refine(rz H.out (kF ((aI true).map tx)) (by decide +kernel) (kI (by decide +kernel))).mono ?_;rintro e w2 ⟨v2,rfl,h2⟩;have e2:((aI true).map tx).map aQ=(aI true).map aD:=by rw[eF];rfl
  have e3:iK [] (kF ((aI true).map tx))=(aI true).map tx:=by decide +kernel
  rw[e3,e2,bI,jE] at h2;have H2:=ac h2;clear h2 e2 e3;go_wp2_with fail;go_ret;exact⟨_,rfl,H2.out⟩
theorem vF {l:List Nat} (h:Bit l):eI (tx l)=l:=by
 induction l with
 | nil=>rfl
 | cons c l ih=>
  have:=h c (by simp);rw[ku,eI,dR,jy this];rw[eI] at ih;rw[ih fun b hb=>h b (by simp [hb])];simp
theorem vG {l:List Nat} (h:Bit l):kA (tx l)=true:=by
 induction l with
 | nil=>rfl
 | cons c l ih=>
  have h1:=ih fun b hb=>h b (by simp [hb])
  rw[ku];simp only[kA,List.all_cons,cS] at h1 ⊢;refine⟨?_,h1⟩;have:=h c (by simp)
  rcases(show c=0∨c=1 by omega) with rfl | rfl <;> rfl
def b8 (B:Nat) (W:List (List Nat)) (M:List Int):SProp:=gt fun N:List Nd=>iW (Trie N W)*re B N M (W.map tx)
theorem Ds {w0 w:World} {B:Nat} {W:List (List Nat)} {M:List Int} {F:SProp} (h:St w0 w (b8 B W M*F)):∃ N,Trie N W∧St w0 w (re B N M (W.map tx)*F):=by
 obtain⟨N,h⟩:=h.ex_l;have h:=h.perm (bk _ _ _);obtain⟨h1,h2⟩:=h.pure_l;exact⟨N,h1,h2⟩
theorem vH {w0 w:World} {B:Nat} {N:List Nd} {W:List (List Nat)} {M:List Int} {F:SProp} (hT:Trie N W) (h:St w0 w (re B N M (W.map tx)*F)):St w0 w (b8 B W M*F):=
 St.mk_ex_l N ((St.mk_pure_l hT h).perm (bk _ _ _).symm)
theorem Dt {w0 w:World} {F:SProp} {W:List (List Nat)} {M:List Int} {n:Nat} {vm vw:Value} (h:St w0 w (own 3 1 vm n (M.map iv)*(own 9 1 vw n (W.map aD)*F))) (hn:n=W.length) (hM:M.length=W.length)
  (hb:∀ w∈W,Bit w) (pf:PF W) (hl:W.length≤900) (h30:∀ w∈W,w.length≤1000):
  Calls Tryz.prog 138 #[vw,vm] w fun e w'=>∃ B,e= .returned (.tuple #[.pointer (some ⟨B,0,none⟩),.int .i64 0])∧St w0 w' (b8 B W M*F):=by
 subst hn;obtain⟨N,hN,hT⟩:=q9 hb pf;have e1:W.map aD=(W.map tx).map aQ:=by rw[eF];rfl
 have hwl:(W.map tx).length=W.length:=by simp
 rw[e1] at h;have C:=uL (.inr ⟨rfl,rfl,rfl⟩) (vw:=vw) (vm:=vm) h (W.map tx) M (by rw[hM,hwl]) (by rw[hwl];exact hl) (fun i t ht=>by
  rw[au] at ht;cases e:W[i]? with
  | none=>rw[e] at ht;cases ht
  | some v=>
   rw[e] at ht;cases ht;rw[iY];exact h30 v (aG e)) (fun w h=>by rw[hwl];exact h.right.reads) (fun w h=>by rw[hM];exact h.reads) hN
 refine C.mono ?_;rintro e w'' ⟨hok,_⟩;obtain⟨B,he,h5,_⟩:=hok rfl;have h6:=((h5.perm (af _ _ _)).right.perm (af _ _ _)).right;exact⟨B,he,vH hT h6⟩
theorem rA {w0 w:World} {F:SProp} {B Wb:Nat} {W:List (List Nat)} {M:List Int} {l:List Nat} {low:Bool} (h:St w0 w (b8 B W M*(az Wb l low*F))) {j:Int} (i:Nat) (hj:j=i) {v:List Nat} (hi:W[i]? =some v) (hv:v≠[]) (hb:Bit v) (h30:v.length≤1000) (hm:l.length≤10000000000000):
  Calls Tryz.prog 181 #[.pointer (some ⟨B,0,none⟩),.pointer (some ⟨Wb,0,none⟩),.int .i64 j] w fun e w'=>e= .returned (.int .i64 0)∧St w0 w' (b8 B W M*(az Wb (l++v) low*F)):=by
 subst hj;obtain⟨N,hT,h⟩:=Ds h;have hil:i<W.length:=by obtain⟨hx,_⟩:=dJ.1 hi;exact hx
 have e:fB (W.map tx) (i:Int)=tx v:=by
  rw[fB,if_pos (by rw[bI];omega),gq,List.getD_eq_getElem?_getD,au,hi];rfl
 have hne:tx v≠[]:=fun h0=>hv (by simpa [tx] using h0)
 refine(rf (.inl rfl) h (uN h) (i:Int) (by rw[e];exact vG hb) (by rw[e,iY];omega) hm).mono ?_;rintro e' w' ⟨rfl,h2⟩;rw[e,if_neg hne,vF hb] at*
 exact⟨rfl,vH hT h2⟩
def fO (B:Nat) (W:List (List Nat)) (M:List Int):SProp:=gt fun N:List Nd=>iW (Trie N W)*rc B N M (W.map tx)
theorem Du {w0 w:World} {B:Nat} {W:List (List Nat)} {M:List Int} {F:SProp} (h:St w0 w (fO B W M*F)):∃ N,Trie N W∧St w0 w (rc B N M (W.map tx)*F):=by
 obtain⟨N,h⟩:=h.ex_l;have h:=h.perm (bk _ _ _);obtain⟨h1,h2⟩:=h.pure_l;exact⟨N,h1,h2⟩
theorem vI {w0 w:World} {B:Nat} {N:List Nd} {W:List (List Nat)} {M:List Int} {F:SProp} (hT:Trie N W) (h:St w0 w (rc B N M (W.map tx)*F)):St w0 w (fO B W M*F):=
 St.mk_ex_l N ((St.mk_pure_l hT h).perm (bk _ _ _).symm)
theorem Dv {w0 w:World} {F:SProp} {W:List (List Nat)} {M:List Int} {n:Nat} {vm vw:Value} (h:St w0 w (own 196 1 vm n (M.map iv)*(own 9 1 vw n (W.map aD)*F))) (hn:n=W.length) (hM:M.length=W.length)
  (hb:∀ w∈W,Bit w) (pf:PF W) (hl:W.length≤900) (h30:∀ w∈W,w.length≤1000):
  Calls Tryz.prog 140 #[vw,vm] w fun e w'=>∃ B,e= .returned (.tuple #[.pointer (some ⟨B,0,none⟩),.int .i64 0])∧St w0 w' (fO B W M*F):=by
 subst hn;obtain⟨N,hN,hT⟩:=q9 hb pf;have e1:W.map aD=(W.map tx).map aQ:=by rw[eF];rfl
 have hwl:(W.map tx).length=W.length:=by simp
 rw[e1] at h;have C:=uL (.inl ⟨rfl,rfl,rfl⟩) (vw:=vw) (vm:=vm) h (W.map tx) M (by rw[hM,hwl]) (by rw[hwl];exact hl) (fun i t ht=>by
  rw[au] at ht;cases e:W[i]? with
  | none=>rw[e] at ht;cases ht
  | some v=>
   rw[e] at ht;cases ht;rw[iY];exact h30 v (aG e)) (fun w h=>by rw[hwl];exact h.right.reads) (fun w h=>by rw[hM];exact h.reads) hN
 refine C.mono ?_;rintro e w'' ⟨hok,_⟩;obtain⟨B,he,h5,_⟩:=hok rfl;have h6:=((h5.perm (af _ _ _)).right.perm (af _ _ _)).right;exact⟨B,he,vI hT h6⟩
theorem Dw {w0 w:World} {F:SProp} {B Wb:Nat} {W:List (List Nat)} {M:List Int} {l:List Nat} {low:Bool} (h:St w0 w (fO B W M*(az Wb l low*F))) {j:Int} (i:Nat) (hj:j=i) {v:List Nat} (hi:W[i]? =some v) (hv:v≠[]) (hb:Bit v) (h30:v.length≤1000) (hm:l.length≤10000000000000):
  Calls Tryz.prog 182 #[.pointer (some ⟨B,0,none⟩),.pointer (some ⟨Wb,0,none⟩),.int .i64 j] w fun e w'=>e= .returned (.int .i64 0)∧St w0 w' (fO B W M*(az Wb (l++v) low*F)):=by
 subst hj;obtain⟨N,hT,h⟩:=Du h;have hil:i<W.length:=by obtain⟨hx,_⟩:=dJ.1 hi;exact hx
 have e:fB (W.map tx) (i:Int)=tx v:=by
  rw[fB,if_pos (by rw[bI];omega),gq,List.getD_eq_getElem?_getD,au,hi];rfl
 have hne:tx v≠[]:=fun h0=>hv (by simpa [tx] using h0)
 refine(rf (.inr (.inl rfl)) h (uN h) (i:Int) (by rw[e];exact vG hb) (by rw[e,iY];omega) hm).mono ?_;rintro e' w' ⟨rfl,h2⟩;rw[e,if_neg hne,vF hb] at*
 exact⟨rfl,vI hT h2⟩
def bc (C:Nat):SProp:=gt fun x:Nat × Nat × Nat=>
 blk C (.cells #[.pointer (some ⟨x.1,0,none⟩),.pointer (some ⟨x.2.1,0,none⟩),.pointer (some ⟨x.2.2,0,none⟩)] 186)*(b8 x.1 (aI false) bx*(b8 x.2.1 (aI true) bx*fO x.2.2 aL gf))
theorem vJ {w0 w:World} {C:Nat} {F:SProp} (h:St w0 w (bc C*F)):∃ B0 B1 Bm:Nat,
  St w0 w (blk C (.cells #[.pointer (some ⟨B0,0,none⟩),.pointer (some ⟨B1,0,none⟩),.pointer (some ⟨Bm,0,none⟩)] 186)*(b8 B0 (aI false) bx*(b8 B1 (aI true) bx*(fO Bm aL gf*F)))):=by
 obtain⟨⟨B0,B1,Bm⟩,h⟩:=h.ex_l;exact⟨B0,B1,Bm,h.perm (by simp only;ac_rfl)⟩
theorem oL {w0 w:World} {C B0 B1 Bm:Nat} {F:SProp}
  (h:St w0 w (blk C (.cells #[.pointer (some ⟨B0,0,none⟩),.pointer (some ⟨B1,0,none⟩),.pointer (some ⟨Bm,0,none⟩)] 186)*(b8 B0 (aI false) bx*(b8 B1 (aI true) bx*(fO Bm aL gf*F))))):St w0 w (bc C*F):=
 St.mk_ex_l (B0,B1,Bm) (h.perm (by simp only;ac_rfl))
theorem vK {w0 w:World} {F:SProp} (black:Bool) {vm vw:Value} (h:St w0 w (own 3 1 vm 104 (bx.map iv)*(own 9 1 vw 104 ((aI black).map aD)*F))):
  Calls Tryz.prog 138 #[vw,vm] w fun e w'=>∃ B,e= .returned (.tuple #[.pointer (some ⟨B,0,none⟩),.int .i64 0])∧St w0 w' (b8 B (aI black) bx*F):=
 Dt h (by rw[jE]) (by rw[rx,jE]) (mL black) (Dm black) (by rw[jE];decide) (fun w hw=>by have:=(kG black w hw).2;omega)
theorem Dx {w0 w:World} {F:SProp} {vm vw:Value} (h:St w0 w (own 196 1 vm 10 (gf.map iv)*(own 9 1 vw 10 (aL.map aD)*F))):
  Calls Tryz.prog 140 #[vw,vm] w fun e w'=>∃ B,e= .returned (.tuple #[.pointer (some ⟨B,0,none⟩),.int .i64 0])∧St w0 w' (fO B aL gf*F):=
 Dv h (by rw[mM]) (by rw[Do,mM]) rv Dn (by rw[mM];decide) (fun w hw=>by have:=(oJ w hw).2;omega)
theorem oM {w0 w:World} {F:SProp} (h:St w0 w F) (ht:eu w0 F):
  Calls Tryz.prog 92 #[] w fun e w'=>∃ C,e= .returned (.pointer (some ⟨C,0,none⟩))∧St w0 w' (bc C*F):=by
 have h1:=h.alloc (.cells #[.pointer none,.pointer none,.pointer none] 186);have H1:=ac h1;clear h h1;have HT:=ac ht;clear ht;go_enter Tryz.func92,Tryz.ntmps92;go_upto_region 2 with (fail)
 generalize w.heap.size=C at*
 generalize w.alloc (.cells #[.pointer none,.pointer none,.pointer none] 186)=w1 at*
 go_wp2_with fail
 go_loopw [9] (fun vi wr=>(vi= .int .i64 0∧St w0 wr (blk C (.cells #[.pointer none,.pointer none,.pointer none] 186)*F))∨
  (vi= .int .i64 1∧∃ B0:Nat,St w0 wr (blk C (.cells #[.pointer (some ⟨B0,0,none⟩),.pointer none,.pointer none] 186)*(b8 B0 (aI false) bx*F)))∨
  (vi= .int .i64 2∧∃ B0 B1:Nat,St w0 wr (blk C (.cells #[.pointer (some ⟨B0,0,none⟩),.pointer (some ⟨B1,0,none⟩),.pointer none] 186)*(b8 B1 (aI true) bx*(b8 B0 (aI false) bx*F))))) (fun vi _=>2-(intOf vi).toNat)
 case atStart=>exact .inl ⟨rfl,H1.out⟩
 case round=>
  clear H1
  rcases hrel with ⟨rfl,hst⟩ | ⟨rfl,B0,hst⟩ | ⟨rfl,B0,B1,hst⟩
  ·have HW:=ac (vB hst (fun w h=>HT.out w h.right) false);clear hst;go_wp2_with fail;refine HW.out.mono ?_;rintro e w2 ⟨vw,vl,rfl,h2⟩;obtain⟨aw,cw,rfl⟩:=h2.right.reads.sub;obtain⟨al,cl,rfl⟩:=h2.reads.sub;have HN:=ac (vK false h2.drew);clear h2 HW;go_upto_region 6 with (fail)
   go_region_with (first | (go_at_call 138;refine HN.out.mono ?_;rintro e w3 ⟨B0,rfl,h3⟩;have h3:=h3.perm (af _ _ _);have f0:=h3.free 0;have c0:=h3.cell 0 rfl;have H4:=ac (h3.set 0 (.pointer (some ⟨B0,0,none⟩)));clear h3))
   all_goals
    clear f0 c0 HN;generalize w3.setCell ⟨C,0,none⟩ (.pointer (some ⟨B0,0,none⟩))=w4 at*
    go_wp2_with fail;exact⟨.inr (.inl ⟨by go_num,B0,H4.out⟩),by simp [intOf]⟩
  ·have HW:=ac (vB hst (fun w h=>HT.out w h.right.right) true);clear hst;go_wp2_with fail;refine HW.out.mono ?_;rintro e w2 ⟨vw,vl,rfl,h2⟩;obtain⟨aw,cw,rfl⟩:=h2.right.reads.sub;obtain⟨al,cl,rfl⟩:=h2.reads.sub;have HN:=ac (vK true h2.drew);clear h2 HW;go_upto_region 6 with (fail)
   go_region_with (first | (go_at_call 138;refine HN.out.mono ?_;rintro e w3 ⟨B1,rfl,h3⟩;have h3:=h3.perm (af _ _ _);have f0:=h3.free 1;have c0:=h3.cell 1 rfl;have H4:=ac (h3.set 1 (.pointer (some ⟨B1,0,none⟩)));clear h3))
   all_goals
    clear f0 c0 HN;generalize w3.setCell ⟨C,1,none⟩ (.pointer (some ⟨B1,0,none⟩))=w4 at*
    go_wp2_with fail;exact⟨.inr (.inr ⟨by go_num,B0,B1,H4.out⟩),by simp [intOf]⟩
  ·have HM:=ac (Dp hst (fun w h=>HT.out w h.right.right.right));clear hst;go_wp2_with fail;refine HM.out.mono ?_;rintro e w2 ⟨vw,vm,rfl,h2⟩;have h2:=h2.perm (af _ _ _);obtain⟨aw,cw,rfl⟩:=h2.right.reads.sub;obtain⟨am,cm,rfl⟩:=h2.reads.sub;have HN:=ac (Dx h2);clear h2 HM;go_wp2_with fail;refine HN.out.mono ?_;rintro e w3 ⟨Bm,rfl,h3⟩;have h3:=h3.perm (af _ _ _);have f0:=h3.free 2;have c0:=h3.cell 2 rfl;have H4:=ac (h3.set 2 (.pointer (some ⟨Bm,0,none⟩)));clear h3;go_wp2_with fail;go_ret;refine⟨C,rfl,oL (B0:=B0) (B1:=B1) (Bm:=Bm) ?_⟩;exact H4.out.perm (show _=blk C (.cells #[.pointer (some ⟨B0,0,none⟩),.pointer (some ⟨B1,0,none⟩),.pointer (some ⟨Bm,0,none⟩)] 186)*(b8 B0 (aI false) bx*(b8 B1 (aI true) bx*(fO Bm aL gf*F))) by
    show blk C (.cells #[.pointer (some ⟨B0,0,none⟩),.pointer (some ⟨B1,0,none⟩),.pointer (some ⟨Bm,0,none⟩)] 186)*(fO Bm aL gf*(b8 B1 (aI true) bx*(b8 B0 (aI false) bx*F)))=_;ac_rfl)
end Go.Proofs.YtboflbdniogcdaaGreatDoor
