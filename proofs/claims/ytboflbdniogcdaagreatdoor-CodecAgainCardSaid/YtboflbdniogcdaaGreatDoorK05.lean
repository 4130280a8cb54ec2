/-
  Parts of a proof.
-/
import Derived.Test.YtboflbdniogcdaaGreatDoorK00
import Derived.Test.YtboflbdniogcdaaGreatDoorK01
import Derived.Deep.LoopGhost
set_option linter.unusedVariables false
set_option linter.unusedSimpArgs false
set_option maxRecDepth 100000
set_option maxHeartbeats 100000000
namespace Go.Mz
open Go.RowKit
def byteB (low:Bool) (l:List Nat) (i:Nat):Nat:=bT low (fun j=>l.getD (8*i+j) 0) 8
def az (low:Bool) (l:List Nat):List UInt8:=(List.range ((l.length+7)/8)).map fun i=>UInt8.ofNat (byteB low l i)
@[simp] theorem dq (low:Bool) (l:List Nat):(az low l).length=(l.length+7)/8:=by simp [az]
theorem jo (low:Bool) {f g:Nat→Nat}:∀ n,(∀ i,i<n→f i=g i)→bT low f n=bT low g n
 | 0,_=>rfl
 | n+1,h=>by simp only[bT];rw[jo low n (fun i hi=>h i (by omega)),h n (by omega)]
theorem vE (low:Bool) (n:Nat):bT low (fun _=>0) n=0:=by induction n <;> cases low <;> simp_all [bT]
theorem vF (low:Bool) (f:Nat→Nat) (i c:Nat) (h0:f i=0):∀ n,i<n→bT low (fun j=>if j=i then c else f j) n=bT low f n+c*2^(cond low i (n-1-i)):=by
 intro n
 induction n with
 | zero=>intro h;omega
 | succ n ih=>
  intro hi
  by_cases e:i=n
  ·subst e;have hc:bT low (fun j=>if j=i then c else f j) i=bT low f i:=jo low i fun j hj=>by simp [Nat.ne_of_lt hj]
   cases low <;> simp [bT,hc,h0]
  ·have hlt:i<n:=by omega
   have h1:=ih hlt;have hn:(if n=i then c else f n)=f n:=by simp [Ne.symm e]
   cases low
   ·simp only[bT,cond,h1,hn,kF,iL];simp only[cond] at h1;rw[show n+1-1-i=(n-1-i)+1 by omega,dM];omega
   ·simp only[bT,cond,h1,hn];omega
theorem vG (f:Nat→Nat) (hf:∀ i,f i≤1) (i:Nat) (h0:∀ j,i≤j→f j=0):∀ n,bT true f n<2^i
 | 0=>by simp [bT,qY]
 | n+1=>by
  simp only[bT,cond]
  by_cases h:i≤n
  ·rw[h0 n h];simpa using vG f hf i h0 n
  ·have:=oS true f hf (n+1);simp only[bT,cond] at this;exact qX this (gj (by decide) (by omega))
theorem rJ (f:Nat→Nat) (i:Nat) (h0:∀ j,i≤j→f j=0):∀ n,bT false f n%2^(n-i)=0
 | 0=>by simp [bT]
 | n+1=>by
  simp only[bT,cond]
  by_cases h:i≤n
  ·rw[h0 n h,show n+1-i=(n-i)+1 by omega,dM,fQ,Nat.mul_mod_mul_right,rJ f i h0 n]
  ·rw[show n+1-i=0 by omega];simp [At]
theorem vH (l:List Nat) (c k:Nat):(l++[c]).getD k 0=if k=l.length then c else l.getD k 0:=by
 simp only[List.getD_eq_getElem?_getD]
 by_cases h:k<l.length
 ·rw[bK h];simp [Nat.ne_of_lt h]
 ·rw[ck (by omega)]
  by_cases e:k=l.length
  ·simp [e]
  ·rw[bh (by simp;omega),bh (by omega)];simp [e]
theorem nc (low:Bool) {l:List Nat} (hb:Bit l) (i:Nat):byteB low l i<256:=oS low _ (fun j=>hb.getD _) 8
theorem BV (low:Bool) (l:List Nat) (c:Nat):byteB low (l++[c]) (l.length/8)=byteB low l (l.length/8)+c*2^(cond low (l.length%8) (7-l.length%8)):=by
 unfold byteB;rw[show(7-l.length%8)=8-1-l.length%8 by omega,← vF low (fun j=>l.getD (8*(l.length/8)+j) 0) (l.length%8) c ?_ 8 (by omega)]
 ·refine jo low 8 fun j hj=> ?_
  rw[vH]
  by_cases e:j=l.length%8
  ·rw[if_pos (by omega),if_pos e]
  ·rw[if_neg (by omega),if_neg e]
 ·show l.getD _ 0=0;rw[List.getD_eq_getElem?_getD,bh (by omega)];rfl
theorem BW (low:Bool) (l:List Nat) (c i:Nat) (h:i<l.length/8):byteB low (l++[c]) i=byteB low l i:=by
 unfold byteB;refine jo low 8 fun j hj=> ?_
 rw[vH,if_neg (by omega)]
theorem BX (low:Bool) {l:List Nat} (hb:Bit l) {c:Nat} (hc:c≤1):
  byteB low l (l.length/8) ||| c*2^(cond low (l.length%8) (7-l.length%8))=byteB low (l++[c]) (l.length/8):=by
 rw[BV];have h0:∀ j,l.length%8≤j→l.getD (8*(l.length/8)+j) 0=0:=fun j hj=>by
  rw[List.getD_eq_getElem?_getD,bh (by omega)];rfl
 cases low
 ·have h1:=rJ (fun j=>l.getD (8*(l.length/8)+j) 0) (l.length%8) h0 8;have h2:c*2^(7-l.length%8)<2^(8-l.length%8):=by
   rw[show 8-l.length%8=(7-l.length%8)+1 by omega,dM];have:c*2^(7-l.length%8)≤1*2^(7-l.length%8):=ef _ hc;have:=qY (a:=2) (n:=7-l.length%8) (by decide);omega
  exact nat_join _ _ _ h1 h2
 ·have h1:=vG (fun j=>l.getD (8*(l.length/8)+j) 0) (fun j=>hb.getD _) (l.length%8) h0 8;rw[Nat.or_comm,lJ];exact nat_join _ _ _ (by simp) h1
theorem BY (low:Bool) {l:List Nat} (c:Nat) (bs:List UInt8) (hlen:bs.length=l.length/8+1) (hbs:∀ i,i<l.length/8→bs[i]? =some (UInt8.ofNat (byteB low l i))):
  bs.set (l.length/8) (UInt8.ofNat (byteB low (l++[c]) (l.length/8)))=az low (l++[c]):=by
 apply gD;intro i;have e:((l++[c]).length+7)/8=l.length/8+1:=by simp;omega
 by_cases hi:i<l.length/8+1
 ·rw[show(az low (l++[c]))[i]? =some (UInt8.ofNat (byteB low (l++[c]) i)) by simp only[az,e];rw[aC,dW hi];rfl]
  by_cases h:i=l.length/8
  ·subst h;rw[ji (by omega)]
  ·rw[jj (by omega),hbs i (by omega),BW low l c i (by omega)]
 ·rw[bh (by simp;omega),bh (by simp;omega)]
theorem kh (low:Bool) (l:List Nat) (i:Nat) (h:i<(l.length+7)/8):(az low l)[i]? =some (UInt8.ofNat (byteB low l i)):=by
 simp only[az];rw[aC,dW h];rfl
theorem l6 (low:Bool) {l:List Nat} (hb:Bit l) (i:Nat):(UInt8.ofNat (byteB low l i)).toNat=byteB low l i:=by
 have:=nc low hb i;simp;omega
theorem vI (low:Bool) {l:List Nat} (hb:Bit l) {c:Nat} (hc:c≤1):
  bits BinOp.or .u8 (byteB low l (l.length/8):Int) ((c:Int)*2^(cond low (l.length%8) (7-l.length%8))%256)=(byteB low (l++[c]) (l.length/8):Nat):=by
 have h7:2^(cond low (l.length%8) (7-l.length%8))≤2^7:=gj (by decide) (by cases low <;> simp <;> omega);have hsh:c*2^(cond low (l.length%8) (7-l.length%8))≤1*128:=eS hc h7;have e:(c:Int)*2^(cond low (l.length%8) (7-l.length%8))%256=((c*2^(cond low (l.length%8) (7-l.length%8)):Nat):Int):=by
  have e1:((c*2^(cond low (l.length%8) (7-l.length%8)):Nat):Int)=(c:Int)*2^(cond low (l.length%8) (7-l.length%8)):=by simp
  rw[← e1];generalize c*2^(cond low (l.length%8) (7-l.length%8))=y at*
  omega
 rw[e,u8_or_nat _ _ (nc low hb _) (by omega),BX low hb hc]
def bx (low:Bool) (v n:Nat):List Nat:=cond low (aE v n).reverse (aE v n)
@[simp] theorem eW (low:Bool) (v n:Nat):(bx low v n).length=n:=by cases low <;> simp [bx]
theorem BZ (low:Bool) (v n:Nat):Bit (bx low v n):=by cases low;exact dp _ _;exact(dp _ _).reverse
theorem rK (low:Bool) (v n i:Nat) (h:i<n):(bx low v n)[i]? =some (v/2^(cond low i (n-1-i))%2):=by
 cases low
 ·exact kR v n i h
 ·simp only[bx,cond];rw[As (by simpa using h),dh,kR _ _ _ (by omega)]
  congr 4;omega
theorem B5 (low:Bool) (v n i:Nat) (h:i<n):(bx low v n).take (i+1)=(bx low v n).take i++[v/2^(cond low i (n-1-i))%2]:=by
 rw[jJ,rK low v n i h];rfl
def cJ (l:List Nat):List Nat:=l++List.replicate ((8-l.length%8)%8) 0
def kY (s:List UInt8):Bool:=s.all fun c=>c==48||c==49
def eE (s:List UInt8):List Nat:=s.map fun c=>c.toNat-48
@[simp] theorem Ls (s:List UInt8):(eE s).length=s.length:=by simp [eE]
abbrev Txt:=List UInt8
def bz:List Txt:=(List.range 258).map fun i=>[UInt8.ofNat i]
theorem eF:bz.length=258:=by simp [bz]
def dr (k:Nat) (old:Bool):Nat:=
 if cond old k (k+1)<512 then 9 else if cond old k (k+1)<1024 then 10 else if cond old k (k+1)<2048 then 11 else 12
theorem B6 (k:Nat) (old:Bool):9≤dr k old∧dr k old≤12:=by
 unfold dr;split
 ·omega
 ·split
  ·omega
  ·split <;> omega
structure LS where
 L:List Txt
 a:Txt
 p:Nat
def bW (bits:List Nat) (old:Bool) (s:LS):Nat:=bT old (fun i=>bits.getD (s.p+i) 0) (dr s.L.length old)
def codeS (bits:List Nat) (old:Bool) (s:LS):LS × Txt × Bool × Nat:=
 if bits.length<s.p+dr s.L.length old then(s,[],false,2)
 else if bW bits old s=256 then(⟨bz,[],s.p+dr s.L.length old⟩,[],false,0)
 else if bW bits old s=257 then(⟨s.L,s.a,s.p+dr s.L.length old⟩,[],true,0)
 else if s.a=[]∧255<bW bits old s then(⟨s.L,s.a,s.p+dr s.L.length old⟩,[],false,6)
 else if s.a=[] then(⟨s.L,s.L.getD (bW bits old s) [],s.p+dr s.L.length old⟩,s.L.getD (bW bits old s) [],false,0)
 else if s.L.length<bW bits old s∨bW bits old s=s.L.length∧4096≤s.L.length then(⟨s.L,s.a,s.p+dr s.L.length old⟩,[],false,6)
 else
  let t:=if bW bits old s<s.L.length then s.L.getD (bW bits old s) [] else s.a++s.a.take 1
  (⟨if s.L.length<4096 then s.L++[s.a++t.take 1] else s.L,t,s.p+dr s.L.length old⟩,t,false,0)
def bJ (bits:List Nat) (old:Bool) (n:Nat):Nat→LS→Txt→Txt × Nat
 | 0,_,_=>([],99)
 | f+1,s,out=>
  if n≤out.length then(out,0)
  else match codeS bits old s with
   | (s',t,e,err)=>
    if err≠0 then([],err)
    else if e then([],2)
    else if n<(out++t).length then([],5)
    else bJ bits old n f s' (out++t)
def fC (bits:List Nat) (old:Bool) (n:Int):Txt × Nat:=
 if n<0 then([],1) else bJ bits old n.toNat (bits.length+1) ⟨bz,[],0⟩ []
def TabOk (L:List Txt) (ah:List Int) (la:List UInt8) (lo:List Nat):Prop:=
 ah.length=L.length∧la.length=L.length∧lo.length=L.length∧
 ∀ i t,L[i]? =some t→lo[i]? =some t.length∧t.length≤L.length∧
  ∃ c,la[i]? =some c∧((t=[c]∧ah[i]? =some (-1))∨∃ (j:Nat) (u:Txt),j<i∧L[j]? =some u∧u≠[]∧t=u++[c]∧ah[i]? =some (j:Int))
theorem TabOk.ne {L:List Txt} {ah la lo} (h:TabOk L ah la lo) {i:Nat} {t:Txt} (hi:L[i]? =some t):t≠[]:=by
 obtain⟨_,_,c,_,⟨rfl,_⟩ | ⟨j,u,_,_,_,rfl,_⟩⟩:=h.2.2.2 i t hi <;> simp
theorem B7:TabOk bz (List.replicate 258 (-1)) ((List.range 258).map UInt8.ofNat) (List.replicate 258 1):=by
 refine⟨by simp [bz],by simp [bz],by simp [bz],fun i t hi=> ?_⟩;have hlt:i<258:=by
  have:=(cG.1 hi).1;rwa [eF] at this
 simp only[bz] at hi;rw[aC,dW hlt] at hi;cases hi;refine⟨?_,by simp [bz],UInt8.ofNat i,?_,.inl ⟨rfl,?_⟩⟩
 ·rw[dx,if_pos hlt];rfl
 ·rw[aC,dW hlt];rfl
 ·rw[dx,if_pos hlt]
theorem B8 {L:List Txt} {ah la lo} (h:TabOk L ah la lo) {j:Nat} {u:Txt} (hj:L[j]? =some u) (c:UInt8):
  TabOk (L++[u++[c]]) (ah++[(j:Int)]) (la++[c]) (lo++[u.length+1]):=by
 obtain⟨h1,h2,h3,h4⟩:=h;have hjl:j<L.length:=(cG.1 hj).1;have hne:=TabOk.ne ⟨h1,h2,h3,h4⟩ hj;refine⟨by simp [h1],by simp [h2],by simp [h3],fun i t hi=> ?_⟩
 by_cases hil:i<L.length
 ·rw[bK hil] at hi;obtain⟨g1,g2,d,g3,g4⟩:=h4 i t hi;refine⟨by rw[bK (by omega)];exact g1,by simp;omega,d,by rw[bK (by omega)];exact g3,?_⟩
  rcases g4 with ⟨rfl,g5⟩ | ⟨k,v,g5,g6,g7,g8,g9⟩
  ·exact .inl ⟨rfl,by rw[bK (by omega)];exact g5⟩
  ·exact .inr ⟨k,v,g5,by rw[bK (by omega)];exact g6,g7,g8,by rw[bK (by omega)];exact g9⟩
 ·have hie:i=L.length:=by
   have:=(cG.1 hi).1;simp at this;omega
  subst hie;rw[ck (Nat.le_refl _),b8] at hi;cases hi;obtain⟨_,g2,_⟩:=h4 j u hj;refine⟨?_,by simp;omega,c,?_,.inr ⟨j,u,hjl,by rw[bK hjl];exact hj,hne,rfl,?_⟩⟩
  ·rw[ck (by omega),h3,b8];simp
  ·rw[ck (by omega),h2,b8];rfl
  ·rw[ck (by omega),h1,b8];rfl
theorem nd {bits:List Nat} {old:Bool} {n g:Nat} {s:LS} {out:Txt} (h:n≤out.length):bJ bits old n (g+1) s out=(out,0):=by
 rw[bJ,if_pos h]
theorem pg {bits:List Nat} {old:Bool} {n g err:Nat} {s s':LS} {t out:Txt} {e:Bool} (h:¬ n≤out.length) (hc:codeS bits old s=(s',t,e,err)) (he:err≠0):bJ bits old n (g+1) s out=([],err):=by
 rw[bJ,if_neg h,hc];simp [he]
theorem rL {bits:List Nat} {old:Bool} {n g:Nat} {s s':LS} {t out:Txt} (h:¬ n≤out.length) (hc:codeS bits old s=(s',t,true,0)):bJ bits old n (g+1) s out=([],2):=by
 rw[bJ,if_neg h,hc];simp
theorem l7 {bits:List Nat} {old:Bool} {n g:Nat} {s s':LS} {t out:Txt} (h:¬ n≤out.length) (hc:codeS bits old s=(s',t,false,0)) (hl:n<(out++t).length):bJ bits old n (g+1) s out=([],5):=by
 rw[bJ,if_neg h,hc];have:n<out.length+t.length:=by simpa using hl
 simp [this]
theorem kZ {bits:List Nat} {old:Bool} {n g:Nat} {s s':LS} {t out:Txt} (h:¬ n≤out.length) (hc:codeS bits old s=(s',t,false,0)) (hl:¬ n<(out++t).length):bJ bits old n (g+1) s out=bJ bits old n g s' (out++t):=by
 rw[bJ,if_neg h,hc];have:¬ n<out.length+t.length:=by simpa using hl
 simp [this]
theorem vJ {bits:List Nat} {old:Bool} {s:LS} (h:bits.length<s.p+dr s.L.length old):codeS bits old s=(s,[],false,2):=by
 rw[codeS,if_pos h]
section
variable {bits:List Nat} {old:Bool} {L:List Txt} {a:Txt} {p c W:Nat} (hW:dr L.length old=W) (h0:¬ bits.length<p+W) (hc:bW bits old ⟨L,a,p⟩=c)
include hW h0 hc
theorem pj (h:c=256):codeS bits old ⟨L,a,p⟩=(⟨bz,[],p+W⟩,[],false,0):=by
 subst hW hc;rw[codeS,if_neg h0,if_pos h]
theorem po (h:c=257):codeS bits old ⟨L,a,p⟩=(⟨L,a,p+W⟩,[],true,0):=by
 subst hW hc;rw[codeS,if_neg h0,if_neg (by omega),if_pos h]
theorem vK (h1:¬ c=256) (h2:¬ c=257) (ha:a=[]) (h:255<c):codeS bits old ⟨L,a,p⟩=(⟨L,a,p+W⟩,[],false,6):=by
 subst hW hc;rw[codeS,if_neg h0,if_neg h1,if_neg h2,if_pos ⟨ha,h⟩]
theorem rM (h1:¬ c=256) (h2:¬ c=257) (ha:a=[]) (h:¬ 255<c) {t:Txt} (ht:L[c]? =some t):codeS bits old ⟨L,a,p⟩=(⟨L,t,p+W⟩,t,false,0):=by
 subst hW hc;have:L.getD (bW bits old ⟨L,a,p⟩) []=t:=by rw[List.getD_eq_getElem?_getD,ht];rfl
 rw[codeS,if_neg h0,if_neg h1,if_neg h2,if_neg (fun h'=>h h'.2),if_pos ha,this]
theorem vL (h1:¬ c=256) (h2:¬ c=257) (ha:a≠[]) (h:L.length<c∨c=L.length∧4096≤L.length):codeS bits old ⟨L,a,p⟩=(⟨L,a,p+W⟩,[],false,6):=by
 subst hW hc;rw[codeS,if_neg h0,if_neg h1,if_neg h2,if_neg (fun h'=>ha h'.1),if_neg ha,if_pos h]
theorem vM (h1:¬ c=256) (h2:¬ c=257) (ha:a≠[]) (h:c<L.length) (hf:¬ L.length<4096) {t:Txt} (ht:L[c]? =some t):codeS bits old ⟨L,a,p⟩=(⟨L,t,p+W⟩,t,false,0):=by
 subst hW hc;have:L.getD (bW bits old ⟨L,a,p⟩) []=t:=by rw[List.getD_eq_getElem?_getD,ht];rfl
 rw[codeS,if_neg h0,if_neg h1,if_neg h2,if_neg (fun h'=>ha h'.1),if_neg ha,if_neg (show ¬ (L.length<bW bits old ⟨L,a,p⟩∨bW bits old ⟨L,a,p⟩=L.length∧4096≤L.length) by omega)];simp only[if_pos h,if_neg hf,this]
theorem rN (h1:¬ c=256) (h2:¬ c=257) (ha:a≠[]) (h:c<L.length) (hf:L.length<4096) {d:UInt8} {t:Txt} (ht:L[c]? =some (d::t)):codeS bits old ⟨L,a,p⟩=(⟨L++[a++[d]],d::t,p+W⟩,d::t,false,0):=by
 subst hW hc;have:L.getD (bW bits old ⟨L,a,p⟩) []=d::t:=by rw[List.getD_eq_getElem?_getD,ht];rfl
 rw[codeS,if_neg h0,if_neg h1,if_neg h2,if_neg (fun h'=>ha h'.1),if_neg ha,if_neg (show ¬ (L.length<bW bits old ⟨L,a,p⟩∨bW bits old ⟨L,a,p⟩=L.length∧4096≤L.length) by omega)];simp only[if_pos h,if_pos hf,this];rfl
theorem rO (h1:¬ c=256) (h2:¬ c=257) {d:UInt8} {t:Txt} (ha:a=d::t) (h:c=L.length) (hf:L.length<4096):codeS bits old ⟨L,a,p⟩=(⟨L++[a++[d]],a++[d],p+W⟩,a++[d],false,0):=by
 subst hW hc;have ha':a≠[]:=by rw[ha];simp
 rw[codeS,if_neg h0,if_neg h1,if_neg h2,if_neg (fun h'=>ha' h'.1),if_neg ha',if_neg (show ¬ (L.length<bW bits old ⟨L,a,p⟩∨bW bits old ⟨L,a,p⟩=L.length∧4096≤L.length) by omega)];rw[ha] at*
 simp only[if_neg (show ¬ bW bits old ⟨L,d::t,p⟩<L.length by omega),if_pos hf];rfl
end
structure LOk (bits:List Nat) (s:LS):Prop where
 L1:258≤s.L.length
 L2:s.L.length≤4096
 lt:∀ (i:Nat) (t:Txt),s.L[i]? =some t→t≠[]∧t.length≤s.L.length
 al:s.a.length≤s.L.length
 pl:s.p≤bits.length
theorem vN:∀ (i:Nat) (t:Txt),bz[i]? =some t→t≠[]∧t.length≤bz.length:=by
 intro i t h;simp only[bz,aC] at h;cases hq:(List.range 258)[i]? with
 | none=>rw[hq] at h;cases h
 | some x=>rw[hq] at h;cases h;exact⟨by simp,by rw[eF];simp⟩
theorem LOk.start (bits:List Nat):LOk bits ⟨bz,[],0⟩:=
 ⟨by simp only[eF];omega,by simp only[eF];omega,vN,by simp,by simp⟩
def db (c:UInt8):UInt8:=UInt8.ofNat (bB (aE c.toNat 8).reverse)
theorem B9 (c:UInt8):(db c).toNat=bB (aE c.toNat 8).reverse:=by
 have:=kS (dp c.toNat 8).reverse;simp [db] at this ⊢;omega
theorem pq (l:List Nat) (h:Bit l):aE (bB l) l.length=l:=by
 induction l with
 | nil=>rfl
 | cons b l ih=>
  have hb:=h b (by simp);have hl:Bit l:=fun c hc=>h c (by simp [hc])
  have hlt:=kS (l:=l) hl;have e1:bB (b::l)/2^l.length%2=b:=by
   rw[iQ,iM,Nat.mul_add_div (qY (by decide)),gE hlt];omega
  have e2:∀ n,n≤l.length→aE (bB (b::l)) n=aE (bB l) n:=by
   intro n hn;have key:∀ i,i<n→bB (b::l)/2^i%2=bB l/2^i%2:=by
    intro i hi;rw[iQ,show l.length=(l.length-i-1)+1+i by omega,mT,← iL,iM _ (2^i),Nat.mul_add_div (qY (by decide)),dM,← iL];omega
   clear hn
   induction n with
   | zero=>rfl
   | succ n ihn=>rw[aE,aE,key n (by omega),ihn (fun i hi=>key i (by omega))]
  rw[aO,aE,e1,e2 _ (Nat.le_refl _),ih hl]
theorem Ca (low:Bool) (f:Nat→Nat) (hf:∀ i,f i≤1) (n i:Nat) (hi:i<n):bT low f n/2^(cond low i (n-1-i))%2=f i:=by
 have hl:Bit ((List.range n).map f):=fun b hb=>by obtain⟨i,_,rfl⟩:=cu.1 hb;exact hf i
 have h2:=pq _ hl;have h3:=pq _ hl.reverse;simp only[bS,kK,oF] at h2 h3;cases low
 ·rw[rv];have:=kR (bB ((List.range n).map f)) n i hi;rw[h2,aC,dW hi] at this;simpa using this.symm
 ·rw[uQ];have:=kR (bB ((List.range n).map f).reverse) n (n-1-i) (by omega);rw[h3,As (by simp;omega)] at this;simp only[bS,kK] at this;rw[show n-1-(n-1-i)=i by omega,aC,dW hi] at this;simpa using this.symm
theorem vO (low:Bool) {l:List Nat} (hb:Bit l) (i:Nat) (h:i<8*((l.length+7)/8)):cE (az low l) low i=l.getD i 0:=by
 unfold cE;rw[List.getD_eq_getElem?_getD,kh low l (i/8) (by omega),jg,l6 low hb];have:=Ca low (fun j=>l.getD (8*(i/8)+j) 0) (fun j=>hb.getD _) 8 (i%8) (by omega);simp only[show 8-1-i%8=7-i%8 by omega] at this;unfold byteB;rw[this]
 congr 1;omega
theorem rP (low:Bool) {l:List Nat} (hb:Bit l) (i:Nat):(ag low (az low l)).getD i 0=l.getD i 0:=by
 by_cases h:i<8*((l.length+7)/8)
 ·rw[oV,vO low hb i h]
 ·rw[List.getD_eq_getElem?_getD,List.getD_eq_getElem?_getD,bh (by simp;omega),bh (by omega)]
theorem rQ (low:Bool) (v n:Nat) (hv:v<2^n) (f:Nat→Nat) (hf:∀ i,i<n→f i=(bx low v n).getD i 0):bT low f n=v:=by
 have e:(List.range n).map f=bx low v n:=by
  apply gD;intro i
  by_cases hi:i<n
  ·rw[aC,dW hi,rK low v n i hi];simp only[b7];rw[hf i hi,List.getD_eq_getElem?_getD,rK low v n i hi];rfl
  ·rw[bh (by simp;omega),bh (by simp;omega)]
 rw[A6,e];cases low <;> simp [bx,uP,qZ hv]
theorem Cb {bits:List Nat} {old:Bool} {s:LS} {c W:Nat} (hW:dr s.L.length old=W) (hc:c<2^W) (hg:∀ j,j<W→bits.getD (s.p+j) 0=(bx old c W).getD j 0):bW bits old s=c:=by
 rw[bW,hW];exact rQ old c W hc _ hg
theorem rR (c:UInt8):bz[c.toNat]? =some [c]:=by
 simp only[bz,aC];have:c.toNat<256:=bR c;rw[dW (by omega)];simp
def widN (q:Nat):Nat:=if q<512 then 9 else if q<1024 then 10 else if q<2048 then 11 else 12
theorem rS (k:Nat):dr k false=widN (k+1):=rfl
theorem lc {q k:Nat} (h:q<k) (hk:k≤4096):q<2^widN k:=by
 unfold widN
 split
 ·simp;omega
 ·split
  ·simp;omega
  ·split
   ·simp;omega
   ·simp;omega
theorem widN_bd (k:Nat):9≤widN k∧widN k≤12:=by
 unfold widN;split
 ·omega
 ·split
  ·omega
  ·split <;> omega
abbrev eZ:=Nat→Nat→Option Nat
def gG:eZ:=fun _ _=>none
def ir (M:eZ) (p c r:Nat):eZ:=fun p' c'=>if p'=p∧c'=c then some r else M p' c'
def encF:List Txt→eZ→Option Nat→Txt→List Nat
 | EL,_,none,[]=>aE 257 (widN EL.length)
 | EL,_,some q,[]=>aE q (widN EL.length)++aE 257 (widN (EL.length+1))
 | EL,M,none,c::cs=>encF EL M (some c.toNat) cs
 | EL,M,some q,c::cs=>
  match M q c.toNat with
  | some r=>encF EL M (some r) cs
  | none=>
   if EL.length+1=4094 then aE q (widN EL.length)++(aE 256 12++encF bz gG (some c.toNat) cs)
   else aE q (widN EL.length)++encF (EL++[EL.getD q []++[c]]) (ir M q c.toNat EL.length) (some c.toNat) cs
def cf (b:Txt):List Nat:=aE 256 9++encF bz gG none b
structure EOk (EL:List Txt) (M:eZ):Prop where
 l1:258≤EL.length
 l2:EL.length<4094
 one:∀ c:UInt8,EL[c.toNat]? =some [c]
 ne:∀ (i:Nat) (t:Txt),EL[i]? =some t→t≠[]
 pr:∀ (p:Nat) (c:UInt8) (r:Nat),M p c.toNat=some r→258≤r∧∃ u,EL[p]? =some u∧EL[r]? =some (u++[c])
theorem EOk.start:EOk bz gG:=
 ⟨by rw[eF];omega,by rw[eF];omega,rR,fun i t h=>(vN i t h).1,fun p c r h=>by cases h⟩
theorem EOk.add {EL:List Txt} {M:eZ} (h:EOk EL M) {q:Nat} {u:Txt} (hq:EL[q]? =some u) (c:UInt8) (h2:EL.length+1<4094):EOk (EL++[u++[c]]) (ir M q c.toNat EL.length):=by
 have hlt:∀ {i:Nat} {t:Txt},EL[i]? =some t→(EL++[u++[c]])[i]? =some t:=fun {i t} hi=>by
  rw[bK (cG.1 hi).1];exact hi
 refine⟨by simp;have:=h.l1;omega,by simp;omega,fun d=>hlt (h.one d),fun i t hi=> ?_,fun p d r hr=> ?_⟩
 ·by_cases hil:i<EL.length
  ·rw[bK hil] at hi;exact h.ne i t hi
  ·rw[ck (by omega)] at hi;have:t∈[u++[c]]:=aI hi;simp at this;subst this;simp
 ·unfold ir at hr
  split at hr
  ·rename_i e;obtain⟨rfl,e2⟩:=e;cases hr;have:d=c:=oG.1 e2;subst this;exact⟨h.l1,u,hlt hq,by simp⟩
  ·obtain⟨g1,v,g2,g3⟩:=h.pr p d r hr;exact⟨g1,v,hlt g2,hlt g3⟩
inductive Run (bits:List Nat):LS→List Txt→LS→Prop
 | nil (s:LS):Run bits s [] s
 | cons {s s1 s2:LS} {t:Txt} {ts:List Txt} (h:codeS bits false s=(s1,t,false,0)) (hm:s1.L.length≤4093) (hp:s.p+9≤s1.p) (r:Run bits s1 ts s2):Run bits s (t::ts) s2
def Agree (bits:List Nat) (p:Nat) (l:List Nat):Prop:=p+l.length≤bits.length∧∀ i,i<l.length→bits.getD (p+i) 0=l.getD i 0
theorem Agree.left {bits:List Nat} {p:Nat} {l m:List Nat} (h:Agree bits p (l++m)):Agree bits p l:=by
 refine⟨by have:=h.1;rw[ae] at this;omega,fun i hi=> ?_⟩;rw[h.2 i (by rw[ae];omega)];simp only[List.getD_eq_getElem?_getD];rw[bK hi]
theorem Agree.right {bits:List Nat} {p:Nat} {l m:List Nat} (h:Agree bits p (l++m)):Agree bits (p+l.length) m:=by
 refine⟨by have:=h.1;rw[ae] at this;omega,fun i hi=> ?_⟩;rw[da,h.2 (l.length+i) (by rw[ae];omega)];simp only[List.getD_eq_getElem?_getD];rw[ck (by omega)]
 congr 2;omega
theorem Agree.code {bits:List Nat} {p W c:Nat} (h:Agree bits p (aE c W)) (hc:c<2^W) {L:List Txt} {a:Txt} (hW:dr L.length false=W):
  bW bits false ⟨L,a,p⟩=c∧¬ bits.length<p+W:=by
 have h1:=h.1;rw[dh] at h1;exact⟨Cb hW hc fun j hj=>h.2 j (by rw[dh];exact hj),by omega⟩
def rT (EL L:List Txt) (a:Txt) (q:Nat) (tq:Txt):Prop:=
 (L=EL∧EL.length=258∧a=[]∧q<256)∨(a≠[]∧∃ x r,tq=x::r∧EL=L++[a++[x]])
theorem rU {bits:List Nat} {EL L:List Txt} {M:eZ} {a tq:Txt} {q p:Nat} (hE:EOk EL M) (hq:EL[q]? =some tq) (hS:rT EL L a q tq) (hA:Agree bits p (aE q (widN EL.length)))
  (hn1:q≠256) (hn2:q≠257):codeS bits false ⟨L,a,p⟩=(⟨EL,tq,p+widN EL.length⟩,tq,false,0):=by
 have hql:q<EL.length:=(cG.1 hq).1;have hl2:=hE.l2
 rcases hS with ⟨rfl,h258,rfl,h256⟩ | ⟨ha,x,r,rfl,hEL⟩
 ·have hw:dr L.length false=widN L.length:=by rw[rS,h258];rfl
  obtain⟨g1,g2⟩:=hA.code (lc hql (by omega)) (L:=L) (a:=[]) hw;exact rM hw g2 g1 hn1 hn2 rfl (by omega) hq
 ·have hlen:EL.length=L.length+1:=by rw[hEL];simp
  have hw:dr L.length false=widN EL.length:=by rw[rS,hlen]
  obtain⟨g1,g2⟩:=hA.code (lc hql (by omega)) (L:=L) (a:=a) hw
  by_cases hlt:q<L.length
  ·have ht:L[q]? =some (x::r):=by rw[hEL,bK hlt] at hq;exact hq
   have:=rN hw g2 g1 hn1 hn2 ha hlt (by omega) ht;rw[this,← hEL]
  ·have hqe:q=L.length:=by omega
   have hax:x::r=a++[x]:=by
    rw[hEL,hqe] at hq;simp at hq;exact hq.symm
   obtain⟨d,u,rfl⟩:∃ d u,a=d::u:=by
    cases a with
    | nil=>exact absurd rfl ha
    | cons d u=>exact⟨d,u,rfl⟩
   have hxd:x=d:=by simpa using congrArg List.head? hax
   subst hxd;have:=rO hw g2 g1 hn1 hn2 (a:=x::u) rfl hqe (by omega);rw[this,← hEL,hax]
theorem Cc {bits:List Nat}:∀ (cs:Txt) (EL:List Txt) (M:eZ) (q:Nat) (tq:Txt) (L:List Txt) (a:Txt) (p:Nat),EOk EL M→EL[q]? =some tq→q≠256→q≠257→rT EL L a q tq→Agree bits p (encF EL M (some q) cs)→
  ∃ ts s1 s2,Run bits ⟨L,a,p⟩ ts s1∧codeS bits false s1=(s2,[],true,0)∧ts.flatten=tq++cs∧s2.p=p+(encF EL M (some q) cs).length:=by
 intro cs
 induction cs with
 | nil=>
  intro EL M q tq L a p hE hq h1 h2 hS hA;rw[encF] at hA ⊢;have hs:=rU hE hq hS hA.left h1 h2;have hA2:=hA.right;rw[dh] at hA2;have hw:dr EL.length false=widN (EL.length+1):=rfl;have hl2:=hE.l2;have hl1:=hE.l1;obtain⟨g1,g2⟩:=hA2.code (lc (show 257<EL.length+1 by omega) (by omega)) (L:=EL) (a:=tq) hw;refine⟨[tq],_,_,.cons hs (by simp only;omega) (by have:=widN_bd EL.length;simp only;omega) (.nil _),po hw g2 g1 rfl,by simp,?_⟩;simp only[ae,dh];omega
 | cons c cs ih=>
  intro EL M q tq L a p hE hq h1 h2 hS hA;have hl2:=hE.l2;have hl1:=hE.l1;have hc8:c.toNat<256:=bR c;rw[encF] at hA ⊢;cases hM:M q c.toNat with
  | some r=>
   simp only[hM] at hA ⊢;obtain⟨g1,u,g2,g3⟩:=hE.pr q c r hM;have hu:u=tq:=by rw[hq] at g2;exact(fv g2).symm
   subst hu;have hne:=hE.ne q u hq;have hS':rT EL L a r (u++[c]):=by
    rcases hS with ⟨rfl,h258,_,_⟩ | ⟨ha,x,v,e1,e2⟩
    ·have:=(cG.1 g3).1;omega
    ·exact .inr ⟨ha,x,v++[c],by rw[e1];rfl,e2⟩
   obtain⟨ts,s1,s2,r1,r2,r3,r4⟩:=ih EL M r (u++[c]) L a p hE g3 (by omega) (by omega) hS' hA;exact⟨ts,s1,s2,r1,r2,by rw[r3];simp,r4⟩
  | none=>
   simp only[hM] at hA ⊢;have hgd:EL.getD q []=tq:=by rw[List.getD_eq_getElem?_getD,hq];rfl
   by_cases hf:EL.length+1=4094
   ·simp only[if_pos hf] at hA ⊢;have hs:=rU hE hq hS hA.left h1 h2;have hA2:=hA.right;rw[dh] at hA2;have hw:dr EL.length false=12:=by rw[rS,hf];rfl
    obtain⟨g1,g2⟩:=hA2.left.code (by decide) (L:=EL) (a:=tq) hw;have hs2:=pj hw g2 g1 rfl;have hA3:=hA2.right;rw[dh] at hA3;obtain⟨ts,s1,s2,r1,r2,r3,r4⟩:=ih bz gG c.toNat [c] bz [] _ EOk.start (rR c) (by omega) (by omega) (.inl ⟨rfl,eF,rfl,hc8⟩) hA3;refine⟨tq::[]::ts,s1,s2,.cons hs (by simp only;omega) (by have:=widN_bd EL.length;simp only;omega) (.cons hs2 (by simp only[eF];omega) (by simp only;omega) r1),r2,by simp [r3],?_⟩;rw[r4];simp only[ae,dh];omega
   ·simp only[if_neg hf,hgd] at hA ⊢;have hs:=rU hE hq hS hA.left h1 h2;have hA2:=hA.right;rw[dh] at hA2;have hne:=hE.ne q tq hq;have hE2:=hE.add hq c (by omega);obtain⟨ts,s1,s2,r1,r2,r3,r4⟩:=ih (EL++[tq++[c]]) (ir M q c.toNat EL.length) c.toNat [c] EL tq _ hE2 (hE2.one c) (by omega) (by omega) (.inr ⟨hne,c,[],rfl,rfl⟩) hA2;refine⟨tq::ts,s1,s2,.cons hs (by simp only;omega) (by have:=widN_bd EL.length;simp only;omega) r1,r2,by simp [r3],?_⟩;rw[r4];simp only[ae,dh];omega
theorem Cd {bits:List Nat} (b:Txt) (h:Agree bits 0 (cf b)):
  codeS bits false ⟨bz,[],0⟩=(⟨bz,[],9⟩,[],false,0)∧
  ∃ ts s1 s2,Run bits ⟨bz,[],9⟩ ts s1∧codeS bits false s1=(s2,[],true,0)∧ts.flatten=b∧s2.p=(cf b).length:=by
 have hw:dr bz.length false=9:=by rw[eF];rfl
 unfold cf at h ⊢;obtain⟨g1,g2⟩:=h.left.code (by decide) (L:=bz) (a:=[]) hw;have hs:=pj hw g2 g1 rfl;have hA:=h.right;rw[dh] at hA;simp only[bA] at hs hA;refine⟨hs,?_⟩;cases b with
 | nil=>
  rw[encF] at hA ⊢;have hw2:dr bz.length false=widN bz.length:=by rw[eF];rfl
  obtain⟨g1,g2⟩:=hA.code (by rw[eF];decide) (L:=bz) (a:=[]) hw2;refine⟨[],_,_,.nil _,po hw2 g2 g1 rfl,rfl,?_⟩;simp only[ae,dh]
 | cons c cs=>
  rw[encF] at hA ⊢;have hc8:c.toNat<256:=bR c;obtain⟨ts,s1,s2,r1,r2,r3,r4⟩:=Cc cs bz gG c.toNat [c] bz [] 9 EOk.start (rR c) (by omega) (by omega) (.inl ⟨rfl,eF,rfl,hc8⟩) hA;refine⟨ts,s1,s2,r1,r2,by simpa using r3,?_⟩;rw[r4];simp only[ae,dh]
theorem Ce (bits:List Nat) (old:Bool) (s:LS):s.p≤(codeS bits old s).1.p:=by
 unfold codeS
 repeat' split
 all_goals simp
theorem Run.len {bits:List Nat} {s s':LS} {ts:List Txt} (r:Run bits s ts s'):s.p+9*ts.length≤s'.p:=by
 induction r with
 | nil s=>simp
 | cons h hm hp r ih=>rw[aO];omega
theorem Cf {bits:List Nat} {s s' s2:LS} {ts:List Txt} (r:Run bits s ts s') (hend:codeS bits false s'=(s2,[],true,0)) (n:Nat):
  ∀ (f:Nat) (out:Txt),ts.length<f→out.length≤n→
   ((out++ts.flatten).length<n→bJ bits false n f s out=([],2))∧
   (n≤(out++ts.flatten).length→bJ bits false n f s out=((out++ts.flatten).take n,0)∨bJ bits false n f s out=([],5))∧
   (n=(out++ts.flatten).length→bJ bits false n f s out=(out++ts.flatten,0)):=by
 induction r with
 | nil s=>
  intro f out hf ho;obtain⟨f,rfl⟩:∃ g,f=g+1:=⟨f-1,by omega⟩;simp only[List.flatten_nil,cy];refine⟨fun h=>rL (by omega) hend,fun h=> .inl ?_,fun h=>nd (by omega)⟩;rw[nd h,cW (by omega)]
 | @cons s s1 s3 t ts h hm hp r ih=>
  intro f out hf ho;obtain⟨f,rfl⟩:∃ g,f=g+1:=⟨f-1,by omega⟩;have e:out++(t::ts).flatten=(out++t)++ts.flatten:=by simp
  rw[e]
  by_cases hd:n≤out.length
  ·have ho2:n=out.length:=by omega
   have hdone:=nd (bits:=bits) (old:=false) (g:=f) (s:=s) hd;refine⟨fun h=> ?_,fun _=> .inl ?_,fun h=> ?_⟩
   ·simp only[ae] at h;omega
   ·rw[hdone,ho2,List.append_assoc,lH]
   ·have hl:(t++ts.flatten).length=0:=by
     simp only[ae] at h ⊢;omega
    have:=bG hl;rw[hdone,List.append_assoc,this,cy]
  ·by_cases hlong:n<(out++t).length
   ·have:=l7 (g:=f) hd h hlong;refine⟨fun h=> ?_,fun _=> .inr this,fun h=> ?_⟩
    ·simp only[ae] at h hlong;omega
    ·simp only[ae] at h hlong;omega
   ·rw[kZ hd h hlong];rw[aO] at hf;exact ih hend f (out++t) (by omega) (by omega)
theorem Cg {bits:List Nat} (b:Txt) (h:Agree bits 0 (cf b)) (n:Nat):
  (b.length<n→fC bits false n=([],2))∧(n≤b.length→fC bits false n=(b.take n,0)∨fC bits false n=([],5))∧(n=b.length→fC bits false n=(b,0)):=by
 obtain⟨hs,ts,s1,s2,r1,r2,r3,r4⟩:=Cd b h;have hp:(9:Nat)+9*ts.length≤s1.p:=r1.len;have hp2:s1.p≤s2.p:=by
  have:=Ce bits false s1;rw[r2] at this;exact this
 have hl:=h.1;have key:∀ m,fC bits false (m:Nat)=bJ bits false m (bits.length+1) ⟨bz,[],0⟩ []:=fun m=>by
  rw[fC,if_neg (by omega),eT]
 have:=Cf (.cons hs (by simp only[eF];omega) (by simp only;omega) r1) r2 n (bits.length+1) [] (by rw[aO];omega) (by simp);simp only[bH,oH,r3] at this;rw[key];exact this
theorem Ch:∀ (cs:Txt) (EL:List Txt) (M:eZ) (st:Option Nat),(encF EL M st cs).length≤24*cs.length+24:=by
 intro cs
 induction cs with
 | nil=>
  intro EL M st;cases st with
  | none=>rw[encF,dh];have:=widN_bd EL.length;omega
  | some q=>rw[encF,ae,dh,dh];have:=widN_bd EL.length;have:=widN_bd (EL.length+1);simp;omega
 | cons c cs ih=>
  intro EL M st;rw[aO];cases st with
  | none=>rw[encF];have:=ih EL M (some c.toNat);omega
  | some q=>
   rw[encF]
   split
   ·rename_i r hr;have:=ih EL M (some r);omega
   ·split
    ·rw[ae,ae,dh,dh];have:=ih bz gG (some c.toNat);have:=widN_bd EL.length;omega
    ·rw[ae,dh];have:=ih (EL++[EL.getD q []++[c]]) (ir M q c.toNat EL.length) (some c.toNat);have:=widN_bd EL.length;omega
theorem rV (b:Txt):(cf b).length≤24*b.length+33:=by
 rw[cf,ae,dh];have:=Ch b bz gG none;omega
theorem Ci:∀ (cs:Txt) (EL:List Txt) (M:eZ) (st:Option Nat),Bit (encF EL M st cs):=by
 intro cs
 induction cs with
 | nil=>
  intro EL M st;cases st with
  | none=>rw[encF];exact dp _ _
  | some q=>rw[encF];exact(dp _ _).append (dp _ _)
 | cons c cs ih=>
  intro EL M st;cases st with
  | none=>rw[encF];exact ih _ _ _
  | some q=>
   rw[encF]
   split
   ·exact ih _ _ _
   ·split
    ·exact(dp _ _).append ((dp _ _).append (ih _ _ _))
    ·exact(dp _ _).append (ih _ _ _)
theorem Cj (b:Txt):Bit (cf b):=(dp _ _).append (Ci _ _ _ _)
theorem Ck (b tail:Txt):Agree (ag false (az false (cf b)++tail)) 0 (cf b):=by
 have hl:(ag false (az false (cf b))).length=8*(((cf b).length+7)/8):=by rw[bM,dq]
 refine⟨by rw[ke,ae,hl];omega,fun i hi=> ?_⟩;rw[bA,ke];have:(ag false (az false (cf b))++ag false tail).getD i 0=(ag false (az false (cf b))).getD i 0:=by
  simp only[List.getD_eq_getElem?_getD];rw[bK (by omega)]
 rw[this];exact rP false (Cj b) i
end Go.Mz
