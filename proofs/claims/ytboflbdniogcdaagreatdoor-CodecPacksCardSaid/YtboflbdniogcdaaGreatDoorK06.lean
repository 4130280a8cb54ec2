/-
  Parts of a proof.
-/
import Derived.Test.YtboflbdniogcdaaGreatDoorK03
import Derived.Test.YtboflbdniogcdaaGreatDoorK04
set_option linter.unusedVariables false
set_option linter.unusedSimpArgs false
set_option maxRecDepth 100000
set_option maxHeartbeats 100000000
namespace Go.Proofs.YtboflbdniogcdaaGreatDoor
open Go.RowKit Go.Mz
def nQ (s:Nat × Nat) (c:UInt8):Nat × Nat:=((s.1+c.toNat)%65521,(s.2+(s.1+c.toNat)%65521)%65521)
def ei (l:List UInt8):Nat × Nat:=l.foldl nQ (1,0)
def eK (l:List UInt8):Nat:=(ei l).2*65536+(ei l).1
theorem qN (l:List UInt8) (c:UInt8):ei (l++[c])=nQ (ei l) c:=by simp [ei,lU]
theorem qO (l:List UInt8):(ei l).1<65521∧(ei l).2<65521:=by
 have key:∀ l:List UInt8,(ei l.reverse).1<65521∧(ei l.reverse).2<65521:=by
  intro l;cases l with
  | nil=>decide
  | cons c l=>
   rw[km,qN];exact⟨jv _ (by decide),jv _ (by decide)⟩
 have:=key l.reverse;rwa [lV] at this
theorem nS (l:List UInt8):eK l<4294967296:=by
 have:=qO l;unfold eK;omega
def gz (l:List UInt8):Nat:=(l.map UInt8.toNat).sum
theorem qP (l:List UInt8) (c:UInt8):gz (l++[c])=gz l+c.toNat:=by simp [gz]
def dY (n:Nat):List UInt8→Nat
 | []=>0
 | c::l=>n*c.toNat+dY (n-1) l
theorem tY:∀ (l:List UInt8) (n:Nat) (c:UInt8),dY n (l++[c])=dY n l+(n-l.length)*c.toNat:=by
 intro l
 induction l with
 | nil=>intro n c;simp [dY]
 | cons d l ih=>intro n c;rw[dB,dY,ih,dY,aK,Nat.sub_sub,kj 1,ec]
theorem AF:∀ (l:List UInt8) (n:Nat),l.length≤n→dY (n+1) l=dY n l+gz l:=by
 intro l
 induction l with
 | nil=>intro n _;simp [dY,gz]
 | cons d l ih=>
  intro n h;rw[aK] at h;have e:=ih (n-1) (by omega);rw[show n-1+1=n by omega] at e;rw[dY,dY,ld,e,kh];simp only[gz,dR,l6];omega
theorem AG (l:List UInt8):(ei l).1=(1+gz l)%65521∧(ei l).2=(l.length+dY l.length l)%65521:=by
 have key:∀ r:List UInt8,(ei r.reverse).1=(1+gz r.reverse)%65521∧(ei r.reverse).2=(r.length+dY r.length r.reverse)%65521:=by
  intro r
  induction r with
  | nil=>decide
  | cons c r ih=>
   obtain⟨h1,h2⟩:=ih;rw[km,qN,qP,aK,tY,ko,AF _ _ (by simp),show r.length+1-r.length=1 by omega];unfold nQ;rw[h1,h2]
   constructor
   ·simp only;omega
   ·simp only;omega
 have:=key l.reverse;rwa [lV,ko] at this
theorem AH {a b:Nat} (ha:a<65536) (hb:b<65536):bits .or .u32 ((a:Int)*65536) (b:Int)=((a*65536+b:Nat):Int):=by
 have e:(a:Int)*65536=((a*65536:Nat):Int):=by omega
 rw[e,u32_or_nat _ _ (by omega) (by omega)]
 congr 1
 exact nat_join 16 (a*65536) b (by omega) (by omega)
theorem AI {w0 w:World} {F:SProp} (h:St w0 w F) {bs:List UInt8} {v:Value} (hv:Stb w0 F (fun w=>Reads w 1 v bs.length (bs.map bv))):
  Calls Tryz.prog 136 #[.int .u32 1,v] w fun e w'=>e= .returned (.int .u32 (eK bs:Nat))∧St w0 w' F:=by
 obtain⟨ab,cb,rfl⟩:=(hv w h).sub;have hm:=(hv w h).len_le;unfold maxLen at hm;have H:=ac h;have HV:=ac hv;obtain⟨L,hL⟩:∃ L,bs.length=L:=⟨_,rfl⟩;rw[hL] at HV hm;simp only[hL];have HL:=ac hL;have hc1:bits .and .u32 1 65535=1:=by decide
 clear h hv hL;go_enter Tryz.func136,Tryz.ntmps136;go_wp2_with fail
 go_loopw [5,6,19] (fun vl vh vi wr=>∃ k:Nat,k≤L∧vi= .int .i64 k∧vl= .int .u64 ((ei (bs.take k)).1:Nat)∧vh= .int .u64 ((ei (bs.take k)).2:Nat)∧wr=w) (fun _ _ vi _=>L-(intOf vi).toNat)
 case atStart=>exact⟨0,by omega,rfl,rfl,rfl,rfl⟩
 case round=>
  obtain⟨k,hk,rfl,rfl,rfl,rfl⟩:=hrel
  by_cases hkL:k<L
  ·have hkI:(k:Int)<L:=by omega
   obtain⟨b,off,rfl,hc⟩:=(HV.out _ H.out).at_ hkL;rw[au,ai (by rw[HL.out];exact hkL)] at hc;replace hc:_=some (Value.int .u8 ((bs[k]'(by rw[HL.out];exact hkL)).toNat:Int)):=hc;have hx8:=bh (bs[k]'(by rw[HL.out];exact hkL));have hsn:=qN (bs.take k) (bs[k]'(by rw[HL.out];exact hkL));rw[← List.take_succ_eq_append_getElem] at hsn;unfold nQ at hsn;obtain⟨h1,h2⟩:=qO (bs.take k);generalize (bs[k]'(by rw[HL.out];exact hkL)).toNat=x at*
   have HSN:=ac hsn;clear hsn;generalize (ei (bs.take k)).1=lo at*
   generalize (ei (bs.take k)).2=hi at*
   go_wp2_with fail;refine⟨⟨k+1,by omega,by go_num,congrArg (Value.int .u64) ?_,congrArg (Value.int .u64) ?_,trivial⟩,by simp [intOf];omega⟩
   ·rw[HSN.out];simp only;omega
   ·rw[HSN.out];simp only;omega
  ·obtain rfl:L=k:=by omega
   have hkI:¬ ((L:Int)<L):=by omega
   rw[bU (by rw[HL.out];exact Nat.le_refl _)];obtain⟨h1,h2⟩:=qO bs;have hN:=ac (show eK bs=(ei bs).2*65536+(ei bs).1 from rfl);generalize (ei bs).1=lo at*
   generalize (ei bs).2=hi at*
   have hj:=AH (a:=hi) (b:=lo) (by omega) (by omega);have HJ:=ac hj;clear hj;go_wp2_with fail;go_ret;refine⟨?_,H.out⟩;rw[hN.out,← HJ.out];rfl
theorem AJ {w0 w:World} {F:SProp} (h:St w0 w F) {bs:List UInt8} {v:Value} (hv:Stb w0 F (fun w=>Reads w 1 v bs.length (bs.map bv))):
  Calls Tryz.prog 90 #[v] w fun e w'=>e= .returned (.int .u32 (eK bs:Nat))∧St w0 w' F:=by
 have HA:=ac (AI h hv);clear h hv;go_enter Tryz.func90,Tryz.ntmps90;go_wp2_with fail;refine HA.out.mono ?_;rintro e w1 ⟨rfl,h1⟩;have H1:=ac h1;clear h1;go_wp2_with fail;go_ret;exact⟨rfl,H1.out⟩
end Go.Proofs.YtboflbdniogcdaaGreatDoor
