/-
  Parts of a proof.
-/
import Derived.Deep.LoopGhost
import Derived.Test.YtboflbdniogcdaaGreatDoorChecked
import Derived.WalkLawsBesides
import Derived.Test.YtboflbdniogcdaaGreatDoorK01
set_option linter.unusedVariables false
set_option linter.unusedSimpArgs false
set_option maxRecDepth 100000
set_option maxHeartbeats 100000000
namespace Go.Proofs.YtboflbdniogcdaaGreatDoor
open Go.RowKit Go.Mz
theorem Ab (l:List UInt8) (w:World) (hl:l.length≤1000000000):
  Calls Tryz.prog 103 #[.string ⟨l.toArray⟩] w fun e w'=>e= .returned (.string ⟨l.reverse.toArray⟩)∧w=w':=by
 go_enter Tryz.func103,Tryz.ntmps103;go_wp2_with fail
 go_loop [3,4] (fun o i=>∃ k:Nat,k≤l.length∧i= .int .i64 ((k:Int)-1)∧o= .string ⟨(l.drop k).reverse.toArray⟩) (fun _ i=>(intOf i+1).toNat)
 case atStart=>exact⟨l.length,Nat.le_refl _,rfl,by simp⟩
 case round=>
  obtain⟨k,hk,rfl,rfl⟩:=hrel;cases k with
  | zero=>
   go_wp2_with fail;go_ret;exact⟨by simp,rfl⟩
  | succ m=>
   rw[show(((m+1:Nat):Int)-1)=(m:Int) from by omega];go_wp2_with fail;refine⟨⟨m,by omega,rfl,?_⟩,by simp [intOf]⟩;rw[ByteArray.extract_mk,ByteArray.mk_append_mk,cC (show m<l.length by omega),km];simp [List.take_one,yY,show m<l.length by omega]
theorem qy {l:List Nat} (w:World) (hl:l.length≤1000000000) {s:ByteArray} (hs:s=⟨(tx l).toArray⟩):
  Calls Tryz.prog 103 #[.string s] w fun e w'=>e= .returned (.string ⟨(tx l.reverse).toArray⟩)∧w=w':=by
 subst hs;have:=Ab (tx l) w (by simpa using hl);rw[zI] at this;exact this
theorem lr {l:List Nat} (w:World) (hb:Bit l) (hl:l.length≤32) {s:ByteArray} (hs:s=⟨(tx l).toArray⟩):
  Calls Tryz.prog 52 #[.string s] w fun e w'=>e= .returned (.int .u32 (aX l))∧w=w':=by
 subst hs;go_enter Tryz.func52,Tryz.ntmps52;go_wp2_with fail
 go_loop [3,4] (fun v i=>∃ k:Nat,k≤l.length∧i= .int .i64 k∧v= .int .u32 (aX (l.take k))) (fun _ i=>l.length-(intOf i).toNat)
 case atStart=>exact⟨0,Nat.zero_le _,rfl,rfl⟩
 case round=>
  obtain⟨k,hk,rfl,rfl⟩:=hrel
  by_cases hkn:k<l.length
  ·have hk1:(k:Int)<(tx l).length:=by simpa using hkn
   have hs:aX (l.take (k+1))=aX (l.take k)*2+l[k]:=by
    rw[List.take_succ_eq_append_getElem hkn,qu]
   have hlt:=lm (hb.take (k+1));have hp:=qr (n:=(l.take (k+1)).length) (by simp;omega);rw[hs] at hlt;have hg:(tx l)[k]? =some (dg l[k]):=by simp [tx,hkn]
   have hd:=jy (hb l[k] (by simp));have hbit:=hb l[k] (by simp);have HS:=ac hs;clear hs;generalize hx:aX (l.take k)=x at*
   generalize hy:l[k]=y at*
   clear hx hy;go_wp2_with fail;refine⟨⟨k+1,by omega,by go_num,?_⟩,by simp [intOf];omega⟩;rw[gu hg,hd,HS.out];exact gL (by omega)
  ·obtain rfl:k=l.length:=by omega
   go_wp2_with fail;go_ret;exact⟨by simp,rfl⟩
theorem qz (v n:Nat) {w0 w:World} {F:SProp} (h:St w0 w F) {i j:Int} (hi:i=v) (hj:j=n) (hv:v<4294967296) (hn:n≤32):
  Calls Tryz.prog 53 #[.int .u32 i,.int .i64 j] w fun e w'=>e= .returned (.string ⟨(tx (ap v n)).toArray⟩)∧St w0 w' F:=by
 subst hi hj;have H:=ac h;clear h;go_enter Tryz.func53,Tryz.ntmps53;go_wp2_with fail
 go_loopw [0,5,6] (fun x s i wr=>∃ k:Nat,k≤n∧i= .int .i64 k∧x= .int .u32 ((v/2^k:Nat):Int)∧s= .string ⟨(tx (ap v k)).toArray⟩∧St w0 wr F) (fun _ _ i _=>n-(intOf i).toNat)
 case atStart=>exact⟨0,Nat.zero_le _,rfl,by simp,rfl,H.out⟩
 case round=>
  obtain⟨k,hk,rfl,rfl,rfl,hst⟩:=hrel
  by_cases hkn:k<n
  ·have hb:v/2^k%2≤1:=by omega
   have hx:v/2^k<4294967296:=jq (kZ _ _) hv;have hq:Hid (v/2^(k+1)=v/2^k/2):=by rw[df,← ny];rfl
   have hw:Hid (ap v (k+1)=(v/2^k%2)::ap v k):=rfl;have HS:=ac hst;clear hst;have hlen:(tx (ap v k)).length≤32:=by simp;omega
   generalize v/2^k=x at*
   go_wp2_with (with_reducible (refine kr 32 9 rfl ?_));refine on (ks Tryz.underlying32 Tryz.underlying5 Tryz.underlying9 rfl rfl (n:=1) (kt wr 5 (dg (x%2)) (by rw[jy hb];simp)) ?_);go_wp2_with fail;refine⟨⟨k+1,by omega,by go_num,by rw[hq.out];simp,?_,HS.out.drop_alloc _⟩,by simp [intOf];omega⟩;rw[hw.out,ku];exact(congrArg Value.string (ByteArray.mk_append_mk _ _))
  ·obtain rfl:k=n:=by omega
   go_wp2_with fail;go_ret;exact⟨rfl,hst⟩
theorem nM (bs:List UInt8) (low:Bool) {w0 w:World} {F:SProp} (h:St w0 w F) (hl:bs.length≤100000000):
  Calls Tryz.prog 56 #[.string ⟨bs.toArray⟩,.bool low] w fun e w'=>e= .returned (.string ⟨(tx (aF low bs)).toArray⟩)∧St w0 w' F:=by
 have H:=ac h;clear h;go_enter Tryz.func56,Tryz.ntmps56;go_wp2_with fail
 go_loopw [5,6] (fun s i wr=>∃ k:Nat,k≤bs.length∧i= .int .i64 k∧s= .string ⟨(tx (aF low (bs.take k))).toArray⟩∧St w0 wr F) (fun _ i _=>bs.length-(intOf i).toNat)
 case atStart=>exact⟨0,Nat.zero_le _,rfl,rfl,H.out⟩
 case round=>
  obtain⟨k,hk,rfl,rfl,hst⟩:=hrel
  by_cases hkn:k<bs.length
  ·have HS:=ac hst;clear hst;have hg:=ac (ai hkn);have hw:Hid (aF low (bs.take (k+1))=aF low (bs.take k)++gK low bs[k]):=by
    show _=_;rw[List.take_succ_eq_append_getElem hkn,lk];simp [aF]
   have hlen:(tx (aF low (bs.take k))).length≤8*bs.length:=by simp;omega
   have hc:bs[k].toNat<256:=bh _;generalize bs[k]=c at*
   cases low
   all_goals
    go_wp2_with fail;refine(qz c.toNat 8 HS.out (by rw[gu hg.out];omega) rfl (by omega) (by decide)).mono ?_;rintro e w1 ⟨rfl,h1⟩;have H1:=ac h1;clear h1;have hlw:(tx (ap c.toNat 8)).length=8:=by simp
    try (
     go_wp2_with fail
     refine(qy _ (by simp) rfl).mono ?_
     rintro e w2 ⟨rfl,rfl⟩
     have hlw2:(tx (ap c.toNat 8).reverse).length=8:=by simp)
    go_wp2_with fail;refine⟨⟨k+1,by omega,by go_num,?_,H1.out⟩,by simp [intOf];omega⟩;rw[hw.out,cZ];exact(congrArg Value.string (ByteArray.mk_append_mk _ _))
  ·obtain rfl:k=bs.length:=by omega
   go_wp2_with fail;go_ret;exact⟨by simp,hst⟩
theorem Ac (s a low:Value) (n:Int) (w:World) (h:n<0∨32<n):
  Calls Tryz.prog 63 #[s,a,.int .i64 n,low] w fun e w'=>e= .returned (.tuple #[.int .u32 0,.int .i64 1])∧w=w':=by
 rcases h with h | h
 ·have h1:decide (n<0)=true:=by simpa using h
  go_enter Tryz.func63,Tryz.ntmps63;go_wp2_with fail;go_ret2;exact⟨rfl,rfl⟩
 ·have h1:¬ n<0:=by omega
  go_enter Tryz.func63,Tryz.ntmps63;go_wp2_with fail;go_ret2;exact⟨rfl,rfl⟩
theorem tH {l:List Nat} (hb:Bit l) (p n:Nat) (low:Bool) (w:World) (hp:p≤l.length) (hn:n≤32) (hl:l.length≤1000000000) {i j:Int} (hi:i=p) (hj:j=n):
  Calls Tryz.prog 63 #[.string ⟨(tx l).toArray⟩,.int .i64 i,.int .i64 j,.bool low] w fun e w'=>e= .returned (.tuple #[.int .u32 (bz low (fun i=>l.getD (p+i) 0) n),.int .i64 0])∧w=w':=by
 subst hi hj;have hw:=tz l p n 32 hn;rw[qv,← hw];have hbx:Bit (((l.drop p)++List.replicate 32 0).take n):=((hb.drop p).append (iZ 32)).take n;have hlx:(((l.drop p)++List.replicate 32 0).take n).length=n:=by simp;omega
 have hex:ByteArray.extract (ByteArray.extract ⟨(tx l).toArray⟩ p l.length++⟨#[48,48,48,48,48,48,48,48,48,48,48,48,48,48,48,48,48,48,48,48,48,48,48,48,48,48,48,48,48,48,48,48]⟩) 0 n=⟨(tx (((l.drop p)++List.replicate 32 0).take n)).toArray⟩:=by
  rw[ByteArray.extract_mk (tx l) p l.length,ByteArray.mk_append_mk,ByteArray.extract_mk _ 0 n,jO,jP,← mh,cZ,← qs,bU (i:=l.length-p) (by simp)];rfl
 have HX:=ac hex;clear hex;have hl2:(tx l).length=l.length:=by simp
 clear hw;generalize ((l.drop p)++List.replicate 32 0).take n=x at*
 cases low
 ·go_enter Tryz.func63,Tryz.ntmps63;go_wp2_with fail;refine(lr _ hbx (by omega) HX.out).mono ?_;rintro e w2 ⟨rfl,rfl⟩;go_wp2_with fail;go_ret2;exact⟨rfl,rfl⟩
 ·go_enter Tryz.func63,Tryz.ntmps63;go_wp2_with fail;refine(qy (l:=x) _ (by omega) HX.out).mono ?_;rintro e w2 ⟨rfl,rfl⟩;go_wp2_with fail;refine(lr _ hbx.reverse (by simp;omega) rfl).mono ?_;rintro e w2 ⟨rfl,rfl⟩;go_wp2_with fail;go_ret2;exact⟨rfl,rfl⟩
theorem Ad {l:List Nat} (hb:Bit l) (p:Nat) (n:Int) (low:Bool) (w:World) (hp:p≤l.length) (hl:l.length≤1000000000) {i:Int} (hi:i=p) {s:ByteArray} (hs:s=⟨(tx l).toArray⟩):
  Calls Tryz.prog 63 #[.string s,.int .i64 i,.int .i64 n,.bool low] w fun e w'=>e= .returned (.tuple #[.int .u32 (ja l low p n).1,.int .i64 (ja l low p n).2])∧w=w':=by
 by_cases h:n<0∨32<n
 ·have e:ja l low p n=(0,1):=by unfold ja;rw[if_pos h]
  rw[e];exact Ac _ _ _ _ _ h
 ·have e:ja l low p n=(bz low (fun i=>l.getD (p+i) 0) n.toNat,0):=by unfold ja;rw[if_neg h]
  rw[e];subst hs;exact tH hb p n.toNat low w hp (by omega) hl hi (by omega)
theorem tI {l:List Nat} (hb:Bit l) (p:Nat) (n:Int) (low:Bool) (w:World) (hp:p≤l.length) (hl:l.length≤1000000000) {i:Int} (hi:i=p) {s:ByteArray} (hs:s=⟨(tx l).toArray⟩):
  Calls Tryz.prog 109 #[.string s,.int .i64 i,.int .i64 n,.bool low] w fun e w'=>
   e= .returned (.tuple #[.int .u32 (gw l low p n).1,.int .i64 (gw l low p n).2.1,.int .i64 (gw l low p n).2.2])∧w=w':=by
 subst hi hs;have hl2:(tx l).length=l.length:=by simp
 have hpk:=ac (Ad hb p n low w hp hl rfl rfl)
 by_cases h:n<0∨32<n
 ·have e:ja l low p n=(0,1):=by unfold ja;rw[if_pos h]
  have E:=ac (show gw l low p n=(0,p,1) by unfold gw;rw[if_pos h]);rw[e] at hpk;clear h;go_enter Tryz.func109,Tryz.ntmps109;go_wp2_with fail;refine(hpk.out).mono ?_;rintro e w2 ⟨rfl,rfl⟩;go_wp2_with fail
  go_ret3
  exact⟨by rw[E.out];rfl,rfl⟩
 ·have e:ja l low p n=(bz low (fun i=>l.getD (p+i) 0) n.toNat,0):=by unfold ja;rw[if_neg h]
  rw[e] at hpk
  by_cases hc:l.length<p+n.toNat
  ·have E:=ac (show gw l low p n=(0,p,2) by unfold gw;rw[if_neg h,if_pos hc]);have hc':(l.length:Int)<p+n:=by omega
   have hn1:0≤n:=by omega
   have hn2:n≤32:=by omega
   clear h hc;generalize bz low (fun i=>l.getD (p+i) 0) n.toNat=x at*
   go_enter Tryz.func109,Tryz.ntmps109;go_wp2_with fail;refine(hpk.out).mono ?_;rintro e w2 ⟨rfl,rfl⟩;go_wp2_with fail
   go_ret3
   exact⟨by rw[E.out];rfl,rfl⟩
  ·have E:=ac (show gw l low p n=(bz low (fun i=>l.getD (p+i) 0) n.toNat,p+n.toNat,0) by unfold gw;rw[if_neg h,if_neg hc]);have hc':¬ (l.length:Int)<p+n:=by omega
   have hn1:0≤n:=by omega
   have hn2:n≤32:=by omega
   have HN:=ac (show((p+n.toNat:Nat):Int)=p+n by omega);clear h hc;generalize bz low (fun i=>l.getD (p+i) 0) n.toNat=x at*
   go_enter Tryz.func109,Tryz.ntmps109;go_wp2_with fail;refine(hpk.out).mono ?_;rintro e w2 ⟨rfl,rfl⟩;go_wp2_with fail
   go_ret3
   exact⟨by rw[E.out];simp only[];rw[HN.out];rfl,rfl⟩
end Go.Proofs.YtboflbdniogcdaaGreatDoor
namespace Go.Mz
open Go.RowKit
def byteB (low:Bool) (l:List Nat) (i:Nat):Nat:=bz low (fun j=>l.getD (8*i+j) 0) 8
def aq (low:Bool) (l:List Nat):List UInt8:=(List.range ((l.length+7)/8)).map fun i=>UInt8.ofNat (byteB low l i)
@[simp] theorem dm (low:Bool) (l:List Nat):(aq low l).length=(l.length+7)/8:=by simp [aq]
theorem ml (low:Bool) {f g:Nat→Nat}:∀ n,(∀ i,i<n→f i=g i)→bz low f n=bz low g n
 | 0,_=>rfl
 | n+1,h=>by simp only[bz];rw[ml low n (fun i hi=>h i (by omega)),h n (by omega)]
theorem Ae (low:Bool) (n:Nat):bz low (fun _=>0) n=0:=by induction n <;> cases low <;> simp_all [bz]
theorem Af (low:Bool) (f:Nat→Nat) (i c:Nat) (h0:f i=0):∀ n,i<n→bz low (fun j=>if j=i then c else f j) n=bz low f n+c*2^(cond low i (n-1-i)):=by
 intro n
 induction n with
 | zero=>intro h;omega
 | succ n ih=>
  intro hi
  by_cases e:i=n
  ·subst e;have hc:bz low (fun j=>if j=i then c else f j) i=bz low f i:=ml low i fun j hj=>by simp [Nat.ne_of_lt hj]
   cases low <;> simp [bz,hc,h0]
  ·have hlt:i<n:=by omega
   have h1:=ih hlt;have hn:(if n=i then c else f n)=f n:=by simp [Ne.symm e]
   cases low
   ·simp only[bz,cond,h1,hn,kh,iz];simp only[cond] at h1;rw[show n+1-1-i=(n-1-i)+1 by omega,df];omega
   ·simp only[bz,cond,h1,hn];omega
theorem tJ (f:Nat→Nat) (hf:∀ i,f i≤1) (i:Nat) (h0:∀ j,i≤j→f j=0):∀ n,bz true f n<2^i
 | 0=>by simp [bz,pY]
 | n+1=>by
  simp only[bz,cond]
  by_cases h:i≤n
  ·rw[h0 n h];simpa using tJ f hf i h0 n
  ·have:=eH true f hf (n+1);simp only[bz,cond] at this;exact kp this (dX (by decide) (by omega))
theorem tK (f:Nat→Nat) (i:Nat) (h0:∀ j,i≤j→f j=0):∀ n,bz false f n%2^(n-i)=0
 | 0=>by simp [bz]
 | n+1=>by
  simp only[bz,cond]
  by_cases h:i≤n
  ·rw[h0 n h,show n+1-i=(n-i)+1 by omega,df,fL,Nat.mul_mod_mul_right,tK f i h0 n]
  ·rw[show n+1-i=0 by omega];simp [yW]
theorem tL (l:List Nat) (c k:Nat):(l++[c]).getD k 0=if k=l.length then c else l.getD k 0:=by
 simp only[List.getD_eq_getElem?_getD]
 by_cases h:k<l.length
 ·rw[cR h];simp [Nat.ne_of_lt h]
 ·rw[dh (by omega)]
  by_cases e:k=l.length
  ·simp [e]
  ·rw[bg (by simp;omega),bg (by omega)];simp [e]
theorem mm (low:Bool) {l:List Nat} (hb:Bit l) (i:Nat):byteB low l i<256:=eH low _ (fun j=>hb.getD _) 8
theorem Ag (low:Bool) (l:List Nat) (c:Nat):byteB low (l++[c]) (l.length/8)=byteB low l (l.length/8)+c*2^(cond low (l.length%8) (7-l.length%8)):=by
 unfold byteB;rw[show(7-l.length%8)=8-1-l.length%8 by omega,← Af low (fun j=>l.getD (8*(l.length/8)+j) 0) (l.length%8) c ?_ 8 (by omega)]
 ·refine ml low 8 fun j hj=> ?_
  rw[tL]
  by_cases e:j=l.length%8
  ·rw[if_pos (by omega),if_pos e]
  ·rw[if_neg (by omega),if_neg e]
 ·show l.getD _ 0=0;rw[List.getD_eq_getElem?_getD,bg (by omega)];rfl
theorem Ah (low:Bool) (l:List Nat) (c i:Nat) (h:i<l.length/8):byteB low (l++[c]) i=byteB low l i:=by
 unfold byteB;refine ml low 8 fun j hj=> ?_
 rw[tL,if_neg (by omega)]
theorem Ai (low:Bool) {l:List Nat} (hb:Bit l) {c:Nat} (hc:c≤1):
  byteB low l (l.length/8) ||| c*2^(cond low (l.length%8) (7-l.length%8))=byteB low (l++[c]) (l.length/8):=by
 rw[Ag];have h0:∀ j,l.length%8≤j→l.getD (8*(l.length/8)+j) 0=0:=fun j hj=>by
  rw[List.getD_eq_getElem?_getD,bg (by omega)];rfl
 cases low
 ·have h1:=tK (fun j=>l.getD (8*(l.length/8)+j) 0) (l.length%8) h0 8;have h2:c*2^(7-l.length%8)<2^(8-l.length%8):=by
   rw[show 8-l.length%8=(7-l.length%8)+1 by omega,df];have:c*2^(7-l.length%8)≤1*2^(7-l.length%8):=dW _ hc;have:=pY (a:=2) (n:=7-l.length%8) (by decide);omega
  exact nat_join _ _ _ h1 h2
 ·have h1:=tJ (fun j=>l.getD (8*(l.length/8)+j) 0) (fun j=>hb.getD _) (l.length%8) h0 8;rw[Nat.or_comm,kj];exact nat_join _ _ _ (by simp) h1
theorem Aj (low:Bool) {l:List Nat} (c:Nat) (bs:List UInt8) (hlen:bs.length=l.length/8+1) (hbs:∀ i,i<l.length/8→bs[i]? =some (UInt8.ofNat (byteB low l i))):
  bs.set (l.length/8) (UInt8.ofNat (byteB low (l++[c]) (l.length/8)))=aq low (l++[c]):=by
 apply iA;intro i;have e:((l++[c]).length+7)/8=l.length/8+1:=by simp;omega
 by_cases hi:i<l.length/8+1
 ·rw[show(aq low (l++[c]))[i]? =some (UInt8.ofNat (byteB low (l++[c]) i)) by simp only[aq,e];rw[au,fs hi];rfl]
  by_cases h:i=l.length/8
  ·subst h;rw[jt (by omega)]
  ·rw[ju (by omega),hbs i (by omega),Ah low l c i (by omega)]
 ·rw[bg (by simp;omega),bg (by simp;omega)]
theorem mn (low:Bool) (l:List Nat) (i:Nat) (h:i<(l.length+7)/8):(aq low l)[i]? =some (UInt8.ofNat (byteB low l i)):=by
 simp only[aq];rw[au,fs h];rfl
theorem mp (low:Bool) {l:List Nat} (hb:Bit l) (i:Nat):(UInt8.ofNat (byteB low l i)).toNat=byteB low l i:=by
 have:=mm low hb i;simp;omega
theorem tM (low:Bool) {l:List Nat} (hb:Bit l) {c:Nat} (hc:c≤1):
  bits BinOp.or .u8 (byteB low l (l.length/8):Int) ((c:Int)*2^(cond low (l.length%8) (7-l.length%8))%256)=(byteB low (l++[c]) (l.length/8):Nat):=by
 have h7:2^(cond low (l.length%8) (7-l.length%8))≤2^7:=dX (by decide) (by cases low <;> simp <;> omega);have hsh:c*2^(cond low (l.length%8) (7-l.length%8))≤1*128:=dv hc h7;have e:(c:Int)*2^(cond low (l.length%8) (7-l.length%8))%256=((c*2^(cond low (l.length%8) (7-l.length%8)):Nat):Int):=by
  have e1:((c*2^(cond low (l.length%8) (7-l.length%8)):Nat):Int)=(c:Int)*2^(cond low (l.length%8) (7-l.length%8)):=by simp
  rw[← e1];generalize c*2^(cond low (l.length%8) (7-l.length%8))=y at*
  omega
 rw[e,u8_or_nat _ _ (mm low hb _) (by omega),Ai low hb hc]
def bi (low:Bool) (v n:Nat):List Nat:=cond low (ap v n).reverse (ap v n)
@[simp] theorem fc (low:Bool) (v n:Nat):(bi low v n).length=n:=by cases low <;> simp [bi]
theorem tN (low:Bool) (v n:Nat):Bit (bi low v n):=by cases low;exact da _ _;exact(da _ _).reverse
theorem qA (low:Bool) (v n i:Nat) (h:i<n):(bi low v n)[i]? =some (v/2^(cond low i (n-1-i))%2):=by
 cases low
 ·exact kx v n i h
 ·simp only[bi,cond];rw[yV (by simpa using h),dw,kx _ _ _ (by omega)]
  congr 4;omega
theorem Ak (low:Bool) (v n i:Nat) (h:i<n):(bi low v n).take (i+1)=(bi low v n).take i++[v/2^(cond low i (n-1-i))%2]:=by
 rw[fY,qA low v n i h];rfl
theorem Al (v a b:Nat):ap v (a+b)=ap (v/2^b) a++ap v b:=by
 induction a with
 | zero=>simp [ap]
 | succ a ih=>rw[show a+1+b=(a+b)+1 by omega,ap,ap,ih,dB,ny,← lZ,kj b a]
def dn (l:List Nat):List Nat:=l++List.replicate ((8-l.length%8)%8) 0
def kA (s:List UInt8):Bool:=s.all fun c=>c==48||c==49
def eI (s:List UInt8):List Nat:=s.map fun c=>c.toNat-48
@[simp] theorem J8 (s:List UInt8):(eI s).length=s.length:=by simp [eI]
theorem Am {c d:UInt8} (h:¬ c=d):((c.toNat:Int) != d.toNat)=true:=by
 rw[bne_iff_ne];exact fun e=>h (lc.1 (by omega))
end Go.Mz
namespace Go.Proofs.YtboflbdniogcdaaGreatDoor
open Go.RowKit Go.Mz
theorem An {l:List Nat} {w:World} (hm:l.length≤1000000000) {s:ByteArray} (hs:s=⟨(tx l).toArray⟩):
  Calls Tryz.prog 57 #[.string s] w fun e w'=>e= .returned (.string ⟨(tx (dn l)).toArray⟩)∧w=w':=by
 subst hs;go_enter Tryz.func57,Tryz.ntmps57;go_wp2_with fail
 go_loopg [0] ((8-l.length%8)%8) (fun g u wr=>∃ k:Nat,k+g=(8-l.length%8)%8∧u= .string ⟨(tx (l++List.replicate k 0)).toArray⟩∧wr=w)
 case atStart=>exact⟨0,by omega,by simp,rfl⟩
 case round=>
  obtain⟨k,hk,rfl,rfl⟩:=hrel;have hlen:(tx (l++List.replicate k 0)).length=l.length+k:=by simp
  by_cases hg:gk=0
  ·subst hg;have h8:(((l.length:Int)+k)%8 != 0)=false:=by
    have:(((l.length:Int)+k)%8)=0:=by omega
    rw[this];rfl
   have HK:=ac (show k=(8-l.length%8)%8 by omega);clear hk;go_wp2_with fail;go_ret;refine⟨?_,rfl⟩;unfold dn;rw[← HK.out];rfl
  ·have h8:(((l.length:Int)+k)%8 != 0)=true:=by
    rw[bne_iff_ne];omega
   have hk2:k+1+(gk-1)=(8-l.length%8)%8:=by omega
   have hk3:k≤7:=by omega
   have HK:=ac hk2;clear hk hk2;go_wp2_with fail
   go_roundg (gk-1)
   case measure=>omega
   case rel=>
    refine⟨k+1,HK.out,?_,rfl⟩;refine(congrArg Value.string (ByteArray.mk_append_mk (tx (l++List.replicate k 0)) [48])).trans ?_;rw[ft,← List.append_assoc,cZ (l++_)];rfl
theorem jW {l:List Nat} (hb:Bit l) (low:Bool) {w0 w:World} {F:SProp} (h:St w0 w F) (hm:l.length≤1000000000) {s:ByteArray} (hs:s=⟨(tx l).toArray⟩):
  Calls Tryz.prog 55 #[.string s,.bool low] w fun e w'=>e= .returned (.string ⟨(aq low l).toArray⟩)∧St w0 w' F:=by
 subst hs;have H:=ac h;clear h;have hl2:(tx l).length=l.length:=by simp
 go_enter Tryz.func55,Tryz.ntmps55;go_wp2_with fail
 go_loopw [5,6] (fun o i wr=>∃ k:Nat,8*k≤l.length+7∧i= .int .i64 ((8*k:Nat):Int)∧o= .string ⟨((aq low l).take k).toArray⟩∧St w0 wr F) (fun _ i _=>l.length+8-(intOf i).toNat)
 case atStart=>exact⟨0,by omega,rfl,rfl,H.out⟩
 case round=>
  obtain⟨k,hk,rfl,rfl,hst⟩:=hrel
  by_cases hkn:8*k<l.length
  ·have HS:=ac hst;clear hst;have hwin:=tz l (8*k) 8 8 (Nat.le_refl _);have hbx:Bit ((l.drop (8*k)++List.replicate 8 0).take 8):=((hb.drop _).append (iZ 8)).take 8;have hlx:((l.drop (8*k)++List.replicate 8 0).take 8).length=8:=by simp
   have hex:ByteArray.extract (ByteArray.extract ⟨(tx l).toArray⟩ (8*k) l.length++⟨#[48,48,48,48,48,48,48,48]⟩) 0 8=⟨(tx ((l.drop (8*k)++List.replicate 8 0).take 8)).toArray⟩:=by
    rw[ByteArray.extract_mk (tx l) (8*k) l.length,ByteArray.mk_append_mk,ByteArray.extract_mk _ 0 8,jO,jP,← mh,cZ,← qs,bU (i:=l.length-8*k) (by simp)];rfl
   have HN:=ac (show aX (cond low ((l.drop (8*k)++List.replicate 8 0).take 8).reverse ((l.drop (8*k)++List.replicate 8 0).take 8))=byteB low l k by
    rw[hwin];exact(qv low _ 8).symm)
   have HT:=ac (show(aq low l).take (k+1)=(aq low l).take k++[UInt8.ofNat (byteB low l k)] by
    rw[fY,mn low l k (by omega)];rfl)
   have hby:=mm low hb k;have HB:=ac (mp low hb k);have hlen:((aq low l).take k).length≤l.length:=by simp;omega
   have HX:=ac hex;clear hex hwin;generalize ((l.drop (8*k)++List.replicate 8 0).take 8)=x at*
   generalize byteB low l k=y at*
   cases low
   ·go_wp2_with fail;refine(lr _ hbx (by omega) HX.out).mono ?_;rintro e w2 ⟨rfl,rfl⟩;rw[show aX x=y from HN.out];go_wp2_with (with_reducible (refine kr 32 9 rfl ?_));refine on (ks Tryz.underlying32 Tryz.underlying5 Tryz.underlying9 rfl rfl (n:=1) (kt wr 5 (UInt8.ofNat y) (by rw[HB.out])) ?_);go_wp2_with fail;refine⟨⟨k+1,by omega,by go_num,?_,HS.out.drop_alloc _⟩,by simp [intOf];omega⟩;rw[HT.out];exact congrArg Value.string (ByteArray.mk_append_mk _ _)
   ·go_wp2_with fail;refine(qy _ (by omega) HX.out).mono ?_;rintro e w2 ⟨rfl,rfl⟩;go_wp2_with fail;refine(lr _ hbx.reverse (by simp;omega) rfl).mono ?_;rintro e w2 ⟨rfl,rfl⟩;rw[show aX x.reverse=y from HN.out];go_wp2_with (with_reducible (refine kr 32 9 rfl ?_));refine on (ks Tryz.underlying32 Tryz.underlying5 Tryz.underlying9 rfl rfl (n:=1) (kt wr 5 (UInt8.ofNat y) (by rw[HB.out])) ?_);go_wp2_with fail;refine⟨⟨k+1,by omega,by go_num,?_,HS.out.drop_alloc _⟩,by simp [intOf];omega⟩;rw[HT.out];exact congrArg Value.string (ByteArray.mk_append_mk _ _)
  ·have HS:=ac hst;clear hst;rw[bU (by simp;omega)];go_wp2_with fail;go_ret;exact⟨rfl,HS.out⟩
end Go.Proofs.YtboflbdniogcdaaGreatDoor
namespace Go.Mz
open Go.RowKit
abbrev Txt:=List UInt8
def aV:List Txt:=(List.range 258).map fun i=>[UInt8.ofNat i]
theorem eJ:aV.length=258:=by simp [aV]
def cg (k:Nat) (old:Bool):Nat:=
 if cond old k (k+1)<512 then 9 else if cond old k (k+1)<1024 then 10 else if cond old k (k+1)<2048 then 11 else 12
theorem tO (k:Nat) (old:Bool):9≤cg k old∧cg k old≤12:=by
 unfold cg;split
 ·omega
 ·split
  ·omega
  ·split <;> omega
structure LS where
 L:List Txt
 a:Txt
 p:Nat
def bq (bits:List Nat) (old:Bool) (s:LS):Nat:=bz old (fun i=>bits.getD (s.p+i) 0) (cg s.L.length old)
def codeS (bits:List Nat) (old:Bool) (s:LS):LS × Txt × Bool × Nat:=
 if bits.length<s.p+cg s.L.length old then(s,[],false,2)
 else if bq bits old s=256 then(⟨aV,[],s.p+cg s.L.length old⟩,[],false,0)
 else if bq bits old s=257 then(⟨s.L,s.a,s.p+cg s.L.length old⟩,[],true,0)
 else if s.a=[]∧255<bq bits old s then(⟨s.L,s.a,s.p+cg s.L.length old⟩,[],false,6)
 else if s.a=[] then(⟨s.L,s.L.getD (bq bits old s) [],s.p+cg s.L.length old⟩,s.L.getD (bq bits old s) [],false,0)
 else if s.L.length<bq bits old s∨bq bits old s=s.L.length∧4096≤s.L.length then(⟨s.L,s.a,s.p+cg s.L.length old⟩,[],false,6)
 else
  let t:=if bq bits old s<s.L.length then s.L.getD (bq bits old s) [] else s.a++s.a.take 1
  (⟨if s.L.length<4096 then s.L++[s.a++t.take 1] else s.L,t,s.p+cg s.L.length old⟩,t,false,0)
def TabOk (L:List Txt) (ah:List Int) (la:List UInt8) (lo:List Nat):Prop:=
 ah.length=L.length∧la.length=L.length∧lo.length=L.length∧
 ∀ i t,L[i]? =some t→lo[i]? =some t.length∧t.length≤L.length∧
  ∃ c,la[i]? =some c∧((t=[c]∧ah[i]? =some (-1))∨∃ (j:Nat) (u:Txt),j<i∧L[j]? =some u∧u≠[]∧t=u++[c]∧ah[i]? =some (j:Int))
theorem TabOk.ne {L:List Txt} {ah la lo} (h:TabOk L ah la lo) {i:Nat} {t:Txt} (hi:L[i]? =some t):t≠[]:=by
 obtain⟨_,_,c,_,⟨rfl,_⟩ | ⟨j,u,_,_,_,rfl,_⟩⟩:=h.2.2.2 i t hi <;> simp
theorem tP {bits:List Nat} {old:Bool} {s:LS} (h:bits.length<s.p+cg s.L.length old):codeS bits old s=(s,[],false,2):=by
 rw[codeS,if_pos h]
section
variable {bits:List Nat} {old:Bool} {L:List Txt} {a:Txt} {p c W:Nat} (hW:cg L.length old=W) (h0:¬ bits.length<p+W) (hc:bq bits old ⟨L,a,p⟩=c)
include hW h0 hc
theorem nN (h:c=256):codeS bits old ⟨L,a,p⟩=(⟨aV,[],p+W⟩,[],false,0):=by
 subst hW hc;rw[codeS,if_neg h0,if_pos h]
theorem nO (h:c=257):codeS bits old ⟨L,a,p⟩=(⟨L,a,p+W⟩,[],true,0):=by
 subst hW hc;rw[codeS,if_neg h0,if_neg (by omega),if_pos h]
theorem tQ (h1:¬ c=256) (h2:¬ c=257) (ha:a=[]) (h:255<c):codeS bits old ⟨L,a,p⟩=(⟨L,a,p+W⟩,[],false,6):=by
 subst hW hc;rw[codeS,if_neg h0,if_neg h1,if_neg h2,if_pos ⟨ha,h⟩]
theorem qB (h1:¬ c=256) (h2:¬ c=257) (ha:a=[]) (h:¬ 255<c) {t:Txt} (ht:L[c]? =some t):codeS bits old ⟨L,a,p⟩=(⟨L,t,p+W⟩,t,false,0):=by
 subst hW hc;have:L.getD (bq bits old ⟨L,a,p⟩) []=t:=by rw[List.getD_eq_getElem?_getD,ht];rfl
 rw[codeS,if_neg h0,if_neg h1,if_neg h2,if_neg (fun h'=>h h'.2),if_pos ha,this]
theorem tR (h1:¬ c=256) (h2:¬ c=257) (ha:a≠[]) (h:L.length<c∨c=L.length∧4096≤L.length):codeS bits old ⟨L,a,p⟩=(⟨L,a,p+W⟩,[],false,6):=by
 subst hW hc;rw[codeS,if_neg h0,if_neg h1,if_neg h2,if_neg (fun h'=>ha h'.1),if_neg ha,if_pos h]
theorem tS (h1:¬ c=256) (h2:¬ c=257) (ha:a≠[]) (h:c<L.length) (hf:¬ L.length<4096) {t:Txt} (ht:L[c]? =some t):codeS bits old ⟨L,a,p⟩=(⟨L,t,p+W⟩,t,false,0):=by
 subst hW hc;have:L.getD (bq bits old ⟨L,a,p⟩) []=t:=by rw[List.getD_eq_getElem?_getD,ht];rfl
 rw[codeS,if_neg h0,if_neg h1,if_neg h2,if_neg (fun h'=>ha h'.1),if_neg ha,if_neg (show ¬ (L.length<bq bits old ⟨L,a,p⟩∨bq bits old ⟨L,a,p⟩=L.length∧4096≤L.length) by omega)];simp only[if_pos h,if_neg hf,this]
theorem qC (h1:¬ c=256) (h2:¬ c=257) (ha:a≠[]) (h:c<L.length) (hf:L.length<4096) {d:UInt8} {t:Txt} (ht:L[c]? =some (d::t)):codeS bits old ⟨L,a,p⟩=(⟨L++[a++[d]],d::t,p+W⟩,d::t,false,0):=by
 subst hW hc;have:L.getD (bq bits old ⟨L,a,p⟩) []=d::t:=by rw[List.getD_eq_getElem?_getD,ht];rfl
 rw[codeS,if_neg h0,if_neg h1,if_neg h2,if_neg (fun h'=>ha h'.1),if_neg ha,if_neg (show ¬ (L.length<bq bits old ⟨L,a,p⟩∨bq bits old ⟨L,a,p⟩=L.length∧4096≤L.length) by omega)];simp only[if_pos h,if_pos hf,this];rfl
theorem qD (h1:¬ c=256) (h2:¬ c=257) {d:UInt8} {t:Txt} (ha:a=d::t) (h:c=L.length) (hf:L.length<4096):codeS bits old ⟨L,a,p⟩=(⟨L++[a++[d]],a++[d],p+W⟩,a++[d],false,0):=by
 subst hW hc;have ha':a≠[]:=by rw[ha];simp
 rw[codeS,if_neg h0,if_neg h1,if_neg h2,if_neg (fun h'=>ha' h'.1),if_neg ha',if_neg (show ¬ (L.length<bq bits old ⟨L,a,p⟩∨bq bits old ⟨L,a,p⟩=L.length∧4096≤L.length) by omega)];rw[ha] at*
 simp only[if_neg (show ¬ bq bits old ⟨L,d::t,p⟩<L.length by omega),if_pos hf];rfl
end
structure LOk (bits:List Nat) (s:LS):Prop where
 L1:258≤s.L.length
 L2:s.L.length≤4096
 lt:∀ (i:Nat) (t:Txt),s.L[i]? =some t→t≠[]∧t.length≤s.L.length
 al:s.a.length≤s.L.length
 pl:s.p≤bits.length
theorem qE:∀ (i:Nat) (t:Txt),aV[i]? =some t→t≠[]∧t.length≤aV.length:=by
 intro i t h;simp only[aV,au] at h;cases hq:(List.range 258)[i]? with
 | none=>rw[hq] at h;cases h
 | some x=>rw[hq] at h;cases h;exact⟨by simp,by rw[eJ];simp⟩
theorem LOk.start (bits:List Nat):LOk bits ⟨aV,[],0⟩:=
 ⟨by simp only[eJ];omega,by simp only[eJ];omega,qE,by simp,by simp⟩
theorem Ao {bits:List Nat} {old:Bool} {s s':LS} {t:Txt} {e:Bool} {err:Nat} (h:LOk bits s) (hc:codeS bits old s=(s',t,e,err)):
  LOk bits s'∧t.length≤4096∧(err=0→s.p+9≤s'.p):=by
 obtain⟨L1,L2,lt,al,pl⟩:=h;have hw:=tO s.L.length old;have gl:(s.L.getD (bq bits old s) []).length≤s.L.length:=by
  rw[List.getD_eq_getElem?_getD];cases hq:s.L[bq bits old s]? with
  | none=>simp
  | some x=>simpa using (lt _ _ hq).2
 unfold codeS at hc
 split at hc
 ·cases hc;exact⟨⟨L1,L2,lt,al,pl⟩,by simp,fun h=>by cases h⟩
 rename_i hp
 split at hc
 ·cases hc;exact⟨⟨by simp only[eJ];omega,by simp only[eJ];omega,qE,by simp,by simp only;omega⟩,by simp,fun _=>by simp only;omega⟩
 split at hc
 ·cases hc;exact⟨⟨L1,L2,lt,al,by simp only;omega⟩,by simp,fun _=>by simp only;omega⟩
 split at hc
 ·cases hc;exact⟨⟨L1,L2,lt,al,by simp only;omega⟩,by simp,fun _=>by simp only;omega⟩
 split at hc
 ·cases hc;exact⟨⟨L1,L2,lt,gl,by simp only;omega⟩,by omega,fun _=>by simp only;omega⟩
 rename_i ha
 split at hc
 ·cases hc;exact⟨⟨L1,L2,lt,al,by simp only;omega⟩,by simp,fun _=>by simp only;omega⟩
 rename_i hn;simp only at hc;generalize ht:(if bq bits old s<s.L.length then s.L.getD (bq bits old s) [] else s.a++s.a.take 1)=u at hc;have hu:u.length≤s.L.length∨s.L.length<4096∧u.length≤s.L.length+1:=by
  rw[← ht]
  split
  ·exact .inl gl
  ·refine .inr ⟨by omega,?_⟩;rw[ae,aJ];omega
 cases hc
 by_cases hf:s.L.length<4096
 ·rw[if_pos hf];refine⟨⟨?_,?_,?_,?_,by simp only;omega⟩,by omega,fun _=>by simp only;omega⟩
  ·simp only[ae,aK,bD];omega
  ·simp only[ae,aK,bD];omega
  ·intro i x hi;simp only at hi ⊢;rw[ae]
   by_cases hil:i<s.L.length
   ·rw[cR hil] at hi;have:=lt i x hi;exact⟨this.1,by omega⟩
   ·rw[dh (by omega)] at hi;have hx:x=s.a++t.take 1:=by
     cases hq:i-s.L.length with
     | zero=>rw[hq] at hi;simpa using hi.symm
     | succ m=>rw[hq] at hi;simp at hi
    subst hx;refine⟨by simp [ha],?_⟩;rw[ae,aJ,aK,bD];omega
  ·simp only[ae,aK,bD];omega
 ·rw[if_neg hf];exact⟨⟨L1,L2,lt,by simp only;omega,by simp only;omega⟩,by omega,fun _=>by simp only;omega⟩
def bK (c:UInt8):UInt8:=UInt8.ofNat (aX (ap c.toNat 8).reverse)
theorem tT (c:UInt8):(bK c).toNat=aX (ap c.toNat 8).reverse:=by
 have:=lm (da c.toNat 8).reverse;simp [bK] at this ⊢;omega
theorem mq (l:List Nat) (h:Bit l):ap (aX l) l.length=l:=by
 induction l with
 | nil=>rfl
 | cons b l ih=>
  have hb:=h b (by simp);have hl:Bit l:=fun c hc=>h c (by simp [hc])
  have hlt:=lm (l:=l) hl;have e1:aX (b::l)/2^l.length%2=b:=by
   rw[i9,jp,Nat.mul_add_div (pY (by decide)),fv hlt];omega
  have e2:∀ n,n≤l.length→ap (aX (b::l)) n=ap (aX l) n:=by
   intro n hn;have key:∀ i,i<n→aX (b::l)/2^i%2=aX l/2^i%2:=by
    intro i hi;rw[i9,show l.length=(l.length-i-1)+1+i by omega,lZ,← iz,jp _ (2^i),Nat.mul_add_div (pY (by decide)),df,← iz];omega
   clear hn
   induction n with
   | zero=>rfl
   | succ n ihn=>rw[ap,ap,key n (by omega),ihn (fun i hi=>key i (by omega))]
  rw[aK,ap,e1,e2 _ (Nat.le_refl _),ih hl]
theorem Ap (low:Bool) (f:Nat→Nat) (hf:∀ i,f i≤1) (n i:Nat) (hi:i<n):bz low f n/2^(cond low i (n-1-i))%2=f i:=by
 have hl:Bit ((List.range n).map f):=fun b hb=>by obtain⟨i,_,rfl⟩:=bW.1 hb;exact hf i
 have h2:=mq _ hl;have h3:=mq _ hl.reverse;simp only[bI,jQ,ko] at h2 h3;cases low
 ·rw[tv];have:=kx (aX ((List.range n).map f)) n i hi;rw[h2,au,fs hi] at this;simpa using this.symm
 ·rw[tw];have:=kx (aX ((List.range n).map f).reverse) n (n-1-i) (by omega);rw[h3,yV (by simp;omega)] at this;simp only[bI,jQ] at this;rw[show n-1-(n-1-i)=i by omega,au,fs hi] at this;simpa using this.symm
theorem tU (low:Bool) {l:List Nat} (hb:Bit l) (i:Nat) (h:i<8*((l.length+7)/8)):dD (aq low l) low i=l.getD i 0:=by
 unfold dD;rw[List.getD_eq_getElem?_getD,mn low l (i/8) (by omega),iB,mp low hb];have:=Ap low (fun j=>l.getD (8*(i/8)+j) 0) (fun j=>hb.getD _) 8 (i%8) (by omega);simp only[show 8-1-i%8=7-i%8 by omega] at this;unfold byteB;rw[this]
 congr 1;omega
theorem nP (low:Bool) {l:List Nat} (hb:Bit l) (i:Nat):(aF low (aq low l)).getD i 0=l.getD i 0:=by
 by_cases h:i<8*((l.length+7)/8)
 ·rw[zM,tU low hb i h]
 ·rw[List.getD_eq_getElem?_getD,List.getD_eq_getElem?_getD,bg (by simp;omega),bg (by omega)]
theorem qF (low:Bool) (v n:Nat) (hv:v<2^n) (f:Nat→Nat) (hf:∀ i,i<n→f i=(bi low v n).getD i 0):bz low f n=v:=by
 have e:(List.range n).map f=bi low v n:=by
  apply iA;intro i
  by_cases hi:i<n
  ·rw[au,fs hi,qA low v n i hi];simp only[cB];rw[hf i hi,List.getD_eq_getElem?_getD,qA low v n i hi];rfl
  ·rw[bg (by simp;omega),bg (by simp;omega)]
 rw[qv,e];cases low <;> simp [bi,mj,pZ hv]
theorem Aq {bits:List Nat} {old:Bool} {s:LS} {c W:Nat} (hW:cg s.L.length old=W) (hc:c<2^W) (hg:∀ j,j<W→bits.getD (s.p+j) 0=(bi old c W).getD j 0):bq bits old s=c:=by
 rw[bq,hW];exact qF old c W hc _ hg
theorem qG (c:UInt8):aV[c.toNat]? =some [c]:=by
 simp only[aV,au];have:c.toNat<256:=bh c;rw[fs (by omega)];simp
def widN (q:Nat):Nat:=if q<512 then 9 else if q<1024 then 10 else if q<2048 then 11 else 12
theorem qH (k:Nat):cg k false=widN (k+1):=rfl
theorem kB {q k:Nat} (h:q<k) (hk:k≤4096):q<2^widN k:=by
 unfold widN
 split
 ·simp;omega
 ·split
  ·simp;omega
  ·split
   ·simp;omega
   ·simp;omega
theorem widN_bd (k:Nat):9≤widN k∧widN k≤12:=by
 unfold widN;split
 ·omega
 ·split
  ·omega
  ·split <;> omega
abbrev fd:=Nat→Nat→Option Nat
def gM:fd:=fun _ _=>none
def gZ (M:fd) (p c r:Nat):fd:=fun p' c'=>if p'=p∧c'=c then some r else M p' c'
def bj:List Txt→fd→Option Nat→Txt→List Nat
 | EL,_,none,[]=>ap 257 (widN EL.length)
 | EL,_,some q,[]=>ap q (widN EL.length)++ap 257 (widN (EL.length+1))
 | EL,M,none,c::cs=>bj EL M (some c.toNat) cs
 | EL,M,some q,c::cs=>
  match M q c.toNat with
  | some r=>bj EL M (some r) cs
  | none=>
   if EL.length+1=4094 then ap q (widN EL.length)++(ap 256 12++bj aV gM (some c.toNat) cs)
   else ap q (widN EL.length)++bj (EL++[EL.getD q []++[c]]) (gZ M q c.toNat EL.length) (some c.toNat) cs
def br (b:Txt):List Nat:=ap 256 9++bj aV gM none b
structure EOk (EL:List Txt) (M:fd):Prop where
 l1:258≤EL.length
 l2:EL.length<4094
 one:∀ c:UInt8,EL[c.toNat]? =some [c]
 ne:∀ (i:Nat) (t:Txt),EL[i]? =some t→t≠[]
 pr:∀ (p:Nat) (c:UInt8) (r:Nat),M p c.toNat=some r→258≤r∧∃ u,EL[p]? =some u∧EL[r]? =some (u++[c])
theorem EOk.start:EOk aV gM:=
 ⟨by rw[eJ];omega,by rw[eJ];omega,qG,fun i t h=>(qE i t h).1,fun p c r h=>by cases h⟩
theorem EOk.add {EL:List Txt} {M:fd} (h:EOk EL M) {q:Nat} {u:Txt} (hq:EL[q]? =some u) (c:UInt8) (h2:EL.length+1<4094):EOk (EL++[u++[c]]) (gZ M q c.toNat EL.length):=by
 have hlt:∀ {i:Nat} {t:Txt},EL[i]? =some t→(EL++[u++[c]])[i]? =some t:=fun {i t} hi=>by
  rw[cR (dJ.1 hi).1];exact hi
 refine⟨by simp;have:=h.l1;omega,by simp;omega,fun d=>hlt (h.one d),fun i t hi=> ?_,fun p d r hr=> ?_⟩
 ·by_cases hil:i<EL.length
  ·rw[cR hil] at hi;exact h.ne i t hi
  ·rw[dh (by omega)] at hi;have:t∈[u++[c]]:=aG hi;simp at this;subst this;simp
 ·unfold gZ at hr
  split at hr
  ·rename_i e;obtain⟨rfl,e2⟩:=e;cases hr;have:d=c:=lc.1 e2;subst this;exact⟨h.l1,u,hlt hq,by simp⟩
  ·obtain⟨g1,v,g2,g3⟩:=h.pr p d r hr;exact⟨g1,v,hlt g2,hlt g3⟩
inductive Run (bits:List Nat):LS→List Txt→LS→Prop
 | nil (s:LS):Run bits s [] s
 | cons {s s1 s2:LS} {t:Txt} {ts:List Txt} (h:codeS bits false s=(s1,t,false,0)) (hm:s1.L.length≤4093) (hp:s.p+9≤s1.p) (r:Run bits s1 ts s2):Run bits s (t::ts) s2
def Agree (bits:List Nat) (p:Nat) (l:List Nat):Prop:=p+l.length≤bits.length∧∀ i,i<l.length→bits.getD (p+i) 0=l.getD i 0
theorem Agree.left {bits:List Nat} {p:Nat} {l m:List Nat} (h:Agree bits p (l++m)):Agree bits p l:=by
 refine⟨by have:=h.1;rw[ae] at this;omega,fun i hi=> ?_⟩;rw[h.2 i (by rw[ae];omega)];simp only[List.getD_eq_getElem?_getD];rw[cR hi]
theorem Agree.right {bits:List Nat} {p:Nat} {l m:List Nat} (h:Agree bits p (l++m)):Agree bits (p+l.length) m:=by
 refine⟨by have:=h.1;rw[ae] at this;omega,fun i hi=> ?_⟩;rw[ec,h.2 (l.length+i) (by rw[ae];omega)];simp only[List.getD_eq_getElem?_getD];rw[dh (by omega)]
 congr 2;omega
theorem Agree.code {bits:List Nat} {p W c:Nat} (h:Agree bits p (ap c W)) (hc:c<2^W) {L:List Txt} {a:Txt} (hW:cg L.length false=W):
  bq bits false ⟨L,a,p⟩=c∧¬ bits.length<p+W:=by
 have h1:=h.1;rw[dw] at h1;exact⟨Aq hW hc fun j hj=>h.2 j (by rw[dw];exact hj),by omega⟩
def qI (EL L:List Txt) (a:Txt) (q:Nat) (tq:Txt):Prop:=
 (L=EL∧EL.length=258∧a=[]∧q<256)∨(a≠[]∧∃ x r,tq=x::r∧EL=L++[a++[x]])
theorem qJ {bits:List Nat} {EL L:List Txt} {M:fd} {a tq:Txt} {q p:Nat} (hE:EOk EL M) (hq:EL[q]? =some tq) (hS:qI EL L a q tq) (hA:Agree bits p (ap q (widN EL.length)))
  (hn1:q≠256) (hn2:q≠257):codeS bits false ⟨L,a,p⟩=(⟨EL,tq,p+widN EL.length⟩,tq,false,0):=by
 have hql:q<EL.length:=(dJ.1 hq).1;have hl2:=hE.l2
 rcases hS with ⟨rfl,h258,rfl,h256⟩ | ⟨ha,x,r,rfl,hEL⟩
 ·have hw:cg L.length false=widN L.length:=by rw[qH,h258];rfl
  obtain⟨g1,g2⟩:=hA.code (kB hql (by omega)) (L:=L) (a:=[]) hw;exact qB hw g2 g1 hn1 hn2 rfl (by omega) hq
 ·have hlen:EL.length=L.length+1:=by rw[hEL];simp
  have hw:cg L.length false=widN EL.length:=by rw[qH,hlen]
  obtain⟨g1,g2⟩:=hA.code (kB hql (by omega)) (L:=L) (a:=a) hw
  by_cases hlt:q<L.length
  ·have ht:L[q]? =some (x::r):=by rw[hEL,cR hlt] at hq;exact hq
   have:=qC hw g2 g1 hn1 hn2 ha hlt (by omega) ht;rw[this,← hEL]
  ·have hqe:q=L.length:=by omega
   have hax:x::r=a++[x]:=by
    rw[hEL,hqe] at hq;simp at hq;exact hq.symm
   obtain⟨d,u,rfl⟩:∃ d u,a=d::u:=by
    cases a with
    | nil=>exact absurd rfl ha
    | cons d u=>exact⟨d,u,rfl⟩
   have hxd:x=d:=by simpa using congrArg List.head? hax
   subst hxd;have:=qD hw g2 g1 hn1 hn2 (a:=x::u) rfl hqe (by omega);rw[this,← hEL,hax]
theorem Ar {bits:List Nat}:∀ (cs:Txt) (EL:List Txt) (M:fd) (q:Nat) (tq:Txt) (L:List Txt) (a:Txt) (p:Nat),EOk EL M→EL[q]? =some tq→q≠256→q≠257→qI EL L a q tq→Agree bits p (bj EL M (some q) cs)→
  ∃ ts s1 s2,Run bits ⟨L,a,p⟩ ts s1∧codeS bits false s1=(s2,[],true,0)∧ts.flatten=tq++cs∧s2.p=p+(bj EL M (some q) cs).length:=by
 intro cs
 induction cs with
 | nil=>
  intro EL M q tq L a p hE hq h1 h2 hS hA;rw[bj] at hA ⊢;have hs:=qJ hE hq hS hA.left h1 h2;have hA2:=hA.right;rw[dw] at hA2;have hw:cg EL.length false=widN (EL.length+1):=rfl;have hl2:=hE.l2;have hl1:=hE.l1;obtain⟨g1,g2⟩:=hA2.code (kB (show 257<EL.length+1 by omega) (by omega)) (L:=EL) (a:=tq) hw;refine⟨[tq],_,_,.cons hs (by simp only;omega) (by have:=widN_bd EL.length;simp only;omega) (.nil _),nO hw g2 g1 rfl,by simp,?_⟩;simp only[ae,dw];omega
 | cons c cs ih=>
  intro EL M q tq L a p hE hq h1 h2 hS hA;have hl2:=hE.l2;have hl1:=hE.l1;have hc8:c.toNat<256:=bh c;rw[bj] at hA ⊢;cases hM:M q c.toNat with
  | some r=>
   simp only[hM] at hA ⊢;obtain⟨g1,u,g2,g3⟩:=hE.pr q c r hM;have hu:u=tq:=by rw[hq] at g2;exact(gm g2).symm
   subst hu;have hne:=hE.ne q u hq;have hS':qI EL L a r (u++[c]):=by
    rcases hS with ⟨rfl,h258,_,_⟩ | ⟨ha,x,v,e1,e2⟩
    ·have:=(dJ.1 g3).1;omega
    ·exact .inr ⟨ha,x,v++[c],by rw[e1];rfl,e2⟩
   obtain⟨ts,s1,s2,r1,r2,r3,r4⟩:=ih EL M r (u++[c]) L a p hE g3 (by omega) (by omega) hS' hA;exact⟨ts,s1,s2,r1,r2,by rw[r3];simp,r4⟩
  | none=>
   simp only[hM] at hA ⊢;have hgd:EL.getD q []=tq:=by rw[List.getD_eq_getElem?_getD,hq];rfl
   by_cases hf:EL.length+1=4094
   ·simp only[if_pos hf] at hA ⊢;have hs:=qJ hE hq hS hA.left h1 h2;have hA2:=hA.right;rw[dw] at hA2;have hw:cg EL.length false=12:=by rw[qH,hf];rfl
    obtain⟨g1,g2⟩:=hA2.left.code (by decide) (L:=EL) (a:=tq) hw;have hs2:=nN hw g2 g1 rfl;have hA3:=hA2.right;rw[dw] at hA3;obtain⟨ts,s1,s2,r1,r2,r3,r4⟩:=ih aV gM c.toNat [c] aV [] _ EOk.start (qG c) (by omega) (by omega) (.inl ⟨rfl,eJ,rfl,hc8⟩) hA3;refine⟨tq::[]::ts,s1,s2,.cons hs (by simp only;omega) (by have:=widN_bd EL.length;simp only;omega) (.cons hs2 (by simp only[eJ];omega) (by simp only;omega) r1),r2,by simp [r3],?_⟩;rw[r4];simp only[ae,dw];omega
   ·simp only[if_neg hf,hgd] at hA ⊢;have hs:=qJ hE hq hS hA.left h1 h2;have hA2:=hA.right;rw[dw] at hA2;have hne:=hE.ne q tq hq;have hE2:=hE.add hq c (by omega);obtain⟨ts,s1,s2,r1,r2,r3,r4⟩:=ih (EL++[tq++[c]]) (gZ M q c.toNat EL.length) c.toNat [c] EL tq _ hE2 (hE2.one c) (by omega) (by omega) (.inr ⟨hne,c,[],rfl,rfl⟩) hA2;refine⟨tq::ts,s1,s2,.cons hs (by simp only;omega) (by have:=widN_bd EL.length;simp only;omega) r1,r2,by simp [r3],?_⟩;rw[r4];simp only[ae,dw];omega
theorem As {bits:List Nat} (b:Txt) (h:Agree bits 0 (br b)):
  codeS bits false ⟨aV,[],0⟩=(⟨aV,[],9⟩,[],false,0)∧
  ∃ ts s1 s2,Run bits ⟨aV,[],9⟩ ts s1∧codeS bits false s1=(s2,[],true,0)∧ts.flatten=b∧s2.p=(br b).length:=by
 have hw:cg aV.length false=9:=by rw[eJ];rfl
 unfold br at h ⊢;obtain⟨g1,g2⟩:=h.left.code (by decide) (L:=aV) (a:=[]) hw;have hs:=nN hw g2 g1 rfl;have hA:=h.right;rw[dw] at hA;simp only[bQ] at hs hA;refine⟨hs,?_⟩;cases b with
 | nil=>
  rw[bj] at hA ⊢;have hw2:cg aV.length false=widN aV.length:=by rw[eJ];rfl
  obtain⟨g1,g2⟩:=hA.code (by rw[eJ];decide) (L:=aV) (a:=[]) hw2;refine⟨[],_,_,.nil _,nO hw2 g2 g1 rfl,rfl,?_⟩;simp only[ae,dw]
 | cons c cs=>
  rw[bj] at hA ⊢;have hc8:c.toNat<256:=bh c;obtain⟨ts,s1,s2,r1,r2,r3,r4⟩:=Ar cs aV gM c.toNat [c] aV [] 9 EOk.start (qG c) (by omega) (by omega) (.inl ⟨rfl,eJ,rfl,hc8⟩) hA;refine⟨ts,s1,s2,r1,r2,by simpa using r3,?_⟩;rw[r4];simp only[ae,dw]
theorem At (bits:List Nat) (old:Bool) (s:LS):s.p≤(codeS bits old s).1.p:=by
 unfold codeS
 repeat' split
 all_goals simp
theorem Run.len {bits:List Nat} {s s':LS} {ts:List Txt} (r:Run bits s ts s'):s.p+9*ts.length≤s'.p:=by
 induction r with
 | nil s=>simp
 | cons h hm hp r ih=>rw[aK];omega
theorem Au:∀ (cs:Txt) (EL:List Txt) (M:fd) (st:Option Nat),(bj EL M st cs).length≤24*cs.length+24:=by
 intro cs
 induction cs with
 | nil=>
  intro EL M st;cases st with
  | none=>rw[bj,dw];have:=widN_bd EL.length;omega
  | some q=>rw[bj,ae,dw,dw];have:=widN_bd EL.length;have:=widN_bd (EL.length+1);simp;omega
 | cons c cs ih=>
  intro EL M st;rw[aK];cases st with
  | none=>rw[bj];have:=ih EL M (some c.toNat);omega
  | some q=>
   rw[bj]
   split
   ·rename_i r hr;have:=ih EL M (some r);omega
   ·split
    ·rw[ae,ae,dw,dw];have:=ih aV gM (some c.toNat);have:=widN_bd EL.length;omega
    ·rw[ae,dw];have:=ih (EL++[EL.getD q []++[c]]) (gZ M q c.toNat EL.length) (some c.toNat);have:=widN_bd EL.length;omega
theorem mu (b:Txt):(br b).length≤24*b.length+33:=by
 rw[br,ae,dw];have:=Au b aV gM none;omega
theorem Av:∀ (cs:Txt) (EL:List Txt) (M:fd) (st:Option Nat),Bit (bj EL M st cs):=by
 intro cs
 induction cs with
 | nil=>
  intro EL M st;cases st with
  | none=>rw[bj];exact da _ _
  | some q=>rw[bj];exact(da _ _).append (da _ _)
 | cons c cs ih=>
  intro EL M st;cases st with
  | none=>rw[bj];exact ih _ _ _
  | some q=>
   rw[bj]
   split
   ·exact ih _ _ _
   ·split
    ·exact(da _ _).append ((da _ _).append (ih _ _ _))
    ·exact(da _ _).append (ih _ _ _)
theorem tV (b:Txt):Bit (br b):=(da _ _).append (Av _ _ _ _)
theorem Aw (b tail:Txt):Agree (aF false (aq false (br b)++tail)) 0 (br b):=by
 have hl:(aF false (aq false (br b))).length=8*(((br b).length+7)/8):=by rw[eg,dm]
 refine⟨by rw[lk,ae,hl];omega,fun i hi=> ?_⟩;rw[bQ,lk];have:(aF false (aq false (br b))++aF false tail).getD i 0=(aF false (aq false (br b))).getD i 0:=by
  simp only[List.getD_eq_getElem?_getD];rw[cR (by omega)]
 rw[this];exact nP false (tV b) i
end Go.Mz
