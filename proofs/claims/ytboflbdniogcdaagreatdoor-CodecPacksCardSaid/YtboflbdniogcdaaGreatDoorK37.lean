/-
  Parts of a proof.
-/
import Derived.DeepKeys4
import Derived.MapKept
import Derived.Maps.OwnOps
import Derived.Maps.OwnSet
import Derived.Test.YtboflbdniogcdaaGreatDoorK35
set_option linter.unusedVariables false
set_option linter.unusedSimpArgs false
set_option maxRecDepth 100000
set_option maxHeartbeats 100000000
namespace Go.Proofs.YtboflbdniogcdaaGreatDoor
open Go.RowKit Go.Mz
theorem xB (a b:Nat) (ha:a<4611686018427387904) (hb:b<4611686018427387904):bits .or .i64 (a:Int) (b:Int)=((a ||| b:Nat):Int):=by
 have hx:a ||| b<2^62:=Nat.or_lt_two_pow (by omega) (by omega)
 show IntKind.i64.wrap ((BitVec.ofInt 64 (a:Int) ||| BitVec.ofInt 64 (b:Int)).toNat:Int)=_;rw[BitVec.toNat_or,ofInt_u64 a (by omega),ofInt_u64 b (by omega)];exact IntWalk.i64_in _ (by omega)
theorem F4 {x y z:Nat} (hx:x<256) (hy:y<256) (hz:z<256):bits .or .i64 (bits .or .i64 ((x:Int)*65536) ((y:Int)*256)) (z:Int)=((x*65536+y*256+z:Nat):Int):=by
 have e1:((x:Int)*65536)=((x*65536:Nat):Int):=by omega
 have e2:((y:Int)*256)=((y*256:Nat):Int):=by omega
 rw[e1,e2,xB _ _ (by omega) (by omega),nat_join 16 (x*65536) (y*256) (by omega) (by omega),xB _ _ (by omega) (by omega),nat_join 8 (x*65536+y*256) z (by omega) (by omega)]
def key3 (b:List UInt8) (k:Nat):Nat:=(b.getD k 0).toNat*65536+(b.getD (k+1) 0).toNat*256+(b.getD (k+2) 0).toNat
theorem xC (b:List UInt8) (k:Nat):key3 b k<16777216:=by
 have h1:=bh (b.getD k 0);have h2:=bh (b.getD (k+1) 0);have h3:=bh (b.getD (k+2) 0);unfold key3;omega
theorem xD {w:World} {b off n cap x y z:Nat} (hn:3≤n) (hx:x<256) (hy:y<256) (hz:z<256) (c0:w.cell? ⟨b,off,none⟩=some (.int .u8 (x:Int))) (c1:w.cell? ⟨b,off+1,none⟩=some (.int .u8 (y:Int))) (c2:w.cell? ⟨b,off+2,none⟩=some (.int .u8 (z:Int))):
  Calls Tryz.prog 201 #[.slice (some ⟨b,off,none⟩) n cap] w fun e w'=>e= .returned (.int .i64 (x*65536+y*256+z:Nat))∧∃ m,w'=w.drewN m:=by
 have n0:(0:Int)<n:=by omega
 have n1:(1:Int)<n:=by omega
 have n2:(2:Int)<n:=by omega
 go_enter Tryz.func201,Tryz.ntmps201;go_wp2_with fail;go_quiet (fail);go_wp2_with fail;go_ret;refine⟨?_,_,rfl⟩;have e:=F4 hx hy hz;show Ending.returned (.int .i64 _)=_;rw[e]
structure Alike (b:List UInt8) (i k n:Nat):Prop where
 le:n≤258
 fit:i+n≤b.length
 eq:∀ t,t<n→b.getD (i+t) 0=b.getD (k+t) 0
 end_:n=258∨i+n=b.length∨b.getD (i+n) 0≠b.getD (k+n) 0
theorem F5 {w:World} {v:Value} {b:List UInt8} (h:Reads w 1 v b.length (b.map bv)) {i k:Nat} (hk:k<i) (hi:i≤b.length) (hl:b.length≤1000000000):
  Calls Tryz.prog 202 #[v,.int .i64 (i:Int),.int .i64 (k:Int)] w fun e w'=>∃ n,e= .returned (.int .i64 (n:Nat))∧Alike b i k n∧∃ m,w'=w.drewN m:=by
 obtain⟨a,cap,rfl⟩:=h.sub;have HR:=ac h;clear h;obtain⟨L,hL⟩:∃ L,b.length=L:=⟨_,rfl⟩;rw[hL] at HR hi hl ⊢;have HL:=ac hL;clear hL;go_enter Tryz.func202,Tryz.ntmps202;go_wp2_with fail
 go_loopw [7] (fun vn wr=>∃ n:Nat,vn= .int .i64 n∧n≤258∧i+n≤L∧(∀ t,t<n→b.getD (i+t) 0=b.getD (k+t) 0)∧∃ m,wr=w.drewN m) (fun vn _=>258-(intOf vn).toNat)
 case atStart=>exact⟨0,rfl,by omega,by omega,(fun t ht=>by omega),0,rfl⟩
 case round=>
  obtain⟨n,rfl,hn,hin,heq,m,rfl⟩:=hrel;have HEQ:=ac heq;clear heq
  by_cases h1:n<258
  ·have h1i:(n:Int)<258:=by omega
   by_cases h2:i+n<L
   ·obtain⟨x,y,rfl,hc⟩:=(show Reads (w.drewN m) 1 (.slice a L cap) L (b.map bv) from HR.out).at_ h2;obtain⟨x',y',e,hc'⟩:=(show Reads (w.drewN m) 1 (.slice (some ⟨x,y,none⟩) L cap) L (b.map bv) from HR.out).at_ (show k+n<L by omega);cases e;have g1:(b.map bv)[i+n]? =some (bv (b.getD (i+n) 0)):=by rw[au,List.getD_eq_getElem?_getD,ai (by rw[HL.out];exact h2)];rfl
    have g2:(b.map bv)[k+n]? =some (bv (b.getD (k+n) 0)):=by rw[au,List.getD_eq_getElem?_getD,ai (by rw[HL.out];omega)];rfl
    rw[g1] at hc;rw[g2] at hc';clear g1 g2;simp only[bv] at hc hc';have HCC:=ac (show b.getD (i+n) 0=b.getD (k+n) 0↔(b.getD (i+n) 0).toNat=(b.getD (k+n) 0).toNat from⟨fun h=>by rw[h],fun h=>lc.1 h⟩);generalize hx1:(b.getD (i+n) 0).toNat=x1 at*
    generalize hx2:(b.getD (k+n) 0).toNat=x2 at*
    have h2i:((i+n:Nat):Int)<L:=by omega
    have h2k:((k+n:Nat):Int)<L:=by omega
    have s1:(i:Int)+n=((i+n:Nat):Int):=by omega
    have s2:(k:Int)+n=((k+n:Nat):Int):=by omega
    have h2k':k+n<L:=by omega
    have w1:IntKind.i64.wrap ((i+n:Nat):Int)=((i+n:Nat):Int):=IntWalk.i64_in _ (by omega);have w2:IntKind.i64.wrap ((k+n:Nat):Int)=((k+n:Nat):Int):=IntWalk.i64_in _ (by omega);clear hx1 hx2;obtain⟨pi,hpi⟩:∃ pi,i+n=pi:=⟨_,rfl⟩;obtain⟨pk',hpk⟩:∃ pk',k+n=pk':=⟨_,rfl⟩;rw[hpi] at h2 h2i s1 w1 hc;rw[hpk] at h2k h2k' s2 w2 hc';have hc:w.cell? ⟨x,y+pi,none⟩=some (.int .u8 (x1:Int)):=hc;have hc':w.cell? ⟨x,y+pk',none⟩=some (.int .u8 (x2:Int)):=hc';have HP:=ac hpi;have HPK:=ac hpk;clear hpi hpk
    by_cases h3:x1=x2
    ·have h3b:((x1:Int)==x2)=true:=by simp [h3]
     have h3i:(x1:Int)=x2:=by omega
     go_wp2_with fail;go_quiet (fail);go_wp2_with fail;refine⟨⟨n+1,by go_num,by omega,by have:=HP.out;omega,?_,_,rfl⟩,by simp [intOf];omega⟩;intro t ht
     rcases cf t n with h | h
     ·exact HEQ.out t h
     ·obtain rfl:t=n:=by omega
      exact HCC.out.2 h3
    ·have h3b:((x1:Int)==x2)=false:=by simp;omega
     have h3i:¬ (x1:Int)=x2:=by omega
     go_wp2_with fail;go_quiet (fail);go_wp2_with fail;go_ret;exact⟨n,rfl,⟨by omega,by have:=HP.out;have:=HL.out;omega,HEQ.out,.inr (.inr fun h=>h3 (HCC.out.1 h))⟩,_,by rw[World.drewN_drewN]⟩
   ·have s1:(i:Int)+n=((i+n:Nat):Int):=by omega
    have h2i:¬ ((i+n:Nat):Int)<L:=by omega
    have h2b:decide (((i+n:Nat):Int)<L)=false:=by simpa using h2i
    have h2e:i+n=L:=by omega
    have w1:IntKind.i64.wrap ((i+n:Nat):Int)=((i+n:Nat):Int):=IntWalk.i64_in _ (by omega);obtain⟨pi,hpi⟩:∃ pi,i+n=pi:=⟨_,rfl⟩;have h2n:decide (i+n<L)=false:=by simpa using h2
    rw[hpi] at h2i h2b s1 w1 h2n;have HP:=ac (hpi ▸ h2e);have HQ:=ac h2e;clear hpi h2e hin h2;go_wp2_with fail;go_quiet (fail);go_wp2_with fail;go_ret;exact⟨n,rfl,⟨by omega,by rw[HQ.out,HL.out];omega,HEQ.out,.inr (.inl (by rw[HQ.out,HL.out]))⟩,_,by rw[World.drewN_drewN]⟩
  ·obtain rfl:n=258:=by omega
   have h1b:decide (((258:Nat):Int)<258)=false:=by decide
   go_wp2_with fail;go_quiet (fail);go_wp2_with fail;go_ret;exact⟨258,rfl,⟨by omega,by rw[HL.out];exact hin,HEQ.out,.inl rfl⟩,_,by rw[World.drewN_drewN]⟩
open Go.Maps (Keyed)
open Go.WideElems (Fit rd rg)
abbrev eP:=Nat→Option Nat
def kV:eP:=fun _=>none
def iu (M:eP) (k r:Nat):eP:=fun k'=>if k'=k then some r else M k'
theorem nk:Keyed Tryz.prog 3:=Go.Maps.int_keyed Tryz.underlying3
theorem sr {p:Nat} (h:p<1000000000):(Lit.int .i64 (p:Int)).wf=true:=by
 simp [Lit.wf,IntKind.min,IntKind.max,IntKind.bits,IntKind.signed];omega
theorem pz {p:Nat} (h:p<1000000000):keyOf Tryz.prog 3 (.int .i64 (p:Int))=some (.int .i64 (p:Int)):=Go.Maps.keyOf_int_mk Tryz.underlying3 (sr h)
def NMapIs (D:DataW Unit) (M:eP):Prop:=Maps.IsMap D∧∀ p:Nat,p<1000000000→
 Maps.has D (.int .i64 (p:Int))=(M p).isSome∧∀ r,M p=some r→D.atKey (.int .i64 (p:Int)) (.lit (.int .i64 0))= .lit (.int .i64 (r:Int))
theorem NMapIs.none:NMapIs (.map []) kV:=⟨Maps.isMap_empty,fun p _=>⟨rfl,fun r h=>by cases h⟩⟩
theorem NMapIs.put {D:DataW Unit} {M:eP} (h:NMapIs D M) {p r:Nat} (hp:p<1000000000):NMapIs (D.put (.int .i64 (p:Int)) (.lit (.int .i64 (r:Int)))) (iu M p r):=by
 refine⟨h.1.put _ _,fun p' h1=> ?_⟩
 by_cases e:p'=p
 ·subst e;rw[Maps.has_put_same h.1 (nk.key (pz h1))];refine⟨by simp [iu],fun r' hr=> ?_⟩;simp [iu] at hr;subst hr;exact Maps.atKey_put_same h.1 (nk.key (pz h1)) _ _
 ·have hne:(Lit.int .i64 (p':Int))≠ .int .i64 (p:Int):=fun e2=>by
   injection e2 with _ e3
   omega
  rw[Maps.has_put_other hne];have hM:iu M p r p'=M p':=by simp [iu,e]
  rw[hM];refine⟨(h.2 p' h1).1,fun r' hr=> ?_⟩;rw[Maps.atKey_put_other hne];exact(h.2 p' h1).2 r' hr
def iR (m n:Nat) (M:eP):SProp:=gt fun x:Array MapEntry × Nat=>
 iW (Fit (H:=Unit) Tryz.prog 3 (plainElem Tryz.prog 3) x.1 x.2∧x.1.size≤n∧NMapIs (.map ((x.1.toList.map (rg Tryz.prog 3 (plainElem Tryz.prog 3))).foldr DataW.insert [])) M)*blk m (.map x.1 x.2)
theorem nc {w0 w:World} {m n:Nat} {M:eP} {F:SProp} (h:St w0 w (iR m n M*F)):∃ D,NMapIs D M∧w.ownsMap Tryz.prog 3 (plainElem Tryz.prog 3) m n D∧∃ es clock,St w0 w (blk m (.map es clock)*F):=by
 obtain⟨⟨es,clock⟩,h⟩:=h.ex_l;obtain⟨⟨h1,h2,h3⟩,h⟩:=(h.perm (bk _ _ _)).pure_l;exact⟨_,h3,⟨es,clock,h.at_,h1,h2,rfl⟩,es,clock,h⟩
theorem xE {w0 w w':World} {m n n':Nat} {M M':eP} {F:SProp} (h:St w0 w (iR m n M*F)) {D:DataW Unit} (hD:NMapIs D M') (ho:w'.ownsMap Tryz.prog 3 (plainElem Tryz.prog 3) m n' D) (hg:w.grownBy w' (some m)):St w0 w' (iR m n' M'*F):=by
 obtain⟨_,_,_,es,clock,h⟩:=nc h;obtain⟨es',clock',g1,g2,g3,g4⟩:=ho;have:=h.upd hg.os hg.tape hg.output hg.size g1 (fun k hk hne=>hg.block k hk (by simpa using hne));exact St.mk_ex_l (es',clock') ((St.mk_pure_l ⟨g2,g3,g4 ▸ hD⟩ this).perm (bk _ _ _).symm)
theorem F6 {w0 w:World} {F:SProp} (h:St w0 w F):St w0 (w.alloc (.map #[] 0)) (iR w.heap.size 0 kV*F):=by
 obtain⟨es,clock,g1,g2,g3,g4⟩:=World.ownsMap_made (H:=Unit) w Tryz.prog 3 (plainElem Tryz.prog 3);have ha:=h.alloc (.map #[] 0);have e:=ha.at_;rw[e] at g1;cases g1;exact St.mk_ex_l (#[],0) ((St.mk_pure_l ⟨g2,g3,g4 ▸ NMapIs.none⟩ ha).perm (bk _ _ _).symm)
end Go.Proofs.YtboflbdniogcdaaGreatDoor
namespace Go.Proofs.YtboflbdniogcdaaGreatDoor
open Go.RowKit Go.Mz
structure FOk (b:List UInt8) (i:Nat) (M:eP) (A:List Int):Prop where
 len:A.length=i
 low:∀ (k:Nat) (x:Int),A[k]? =some x→ -1≤x∧x<k
 val:∀ (q k:Nat),M q=some k→k<i
 last:∀ k:Nat,k<i→k+3≤b.length→∃ k',M (key3 b k)=some k'∧k≤k'
theorem FOk.start (b:List UInt8):FOk b 0 kV []:=⟨rfl,fun k x h=>by simp at h,fun q k h=>by simp [kV] at h,fun k h=>by omega⟩
theorem FOk.short {b:List UInt8} {i:Nat} {M:eP} {A:List Int} (h:FOk b i M A) (hi:b.length<i+3):FOk b (i+1) M (A++[-1]):=by
 refine⟨by simp [h.len],fun k x hx=> ?_,fun q k hq=>by have:=h.val q k hq;omega,fun k hk h3=>h.last k (by omega) h3⟩
 rcases cf k A.length with hk | hk
 ·rw[cR hk] at hx;exact h.low k x hx
 ·rw[dh hk] at hx;have:k-A.length=0:=by
   rcases fM (k-A.length) with e | e
   ·exact e
   ·rw[bg (by simp;omega)] at hx;cases hx
  rw[this] at hx;simp at hx;omega
theorem FOk.note {b:List UInt8} {i:Nat} {M:eP} {A:List Int} (h:FOk b i M A) (x:Int) (hx: -1≤x∧x<i):FOk b (i+1) (iu M (key3 b i) i) ((A++[-1]).set i x):=by
 refine⟨by simp [h.len],fun k y hy=> ?_,fun q k hq=> ?_,fun k hk h3=> ?_⟩
 ·rw[li] at hy
  by_cases hik:i=k
  ·subst hik;rw[if_pos rfl] at hy
   split at hy
   ·have:=gm hy;omega
   ·cases hy
  ·rw[if_neg hik] at hy
   rcases cf k A.length with hk | hk
   ·rw[cR hk] at hy;exact h.low k y hy
   ·rw[dh hk,bg (by have:=h.len;simp;omega)] at hy;cases hy
 ·unfold iu at hq
  split at hq
  ·have:=gm hq;omega
  ·have:=h.val q k hq;omega
 ·by_cases hki:key3 b k=key3 b i
  ·exact⟨i,by simp [iu,hki],by omega⟩
  ·have hk2:k≠i:=fun e=>hki (by rw[e])
   obtain⟨k',h1,h2⟩:=h.last k (by omega) h3;exact⟨k',by simp [iu,hki,h1],h2⟩
theorem F7 (A:List Int) {i:Nat} (h:A.length=i):(A++[-1]).set i (-1)=A++[-1]:=by
 subst h;simp
theorem FOk.fresh {b:List UInt8} {i:Nat} {M:eP} {A:List Int} (h:FOk b i M A):FOk b (i+1) (iu M (key3 b i) i) (A++[-1]):=by
 have:=h.note (-1) (by omega);rwa [F7 A h.len] at this
def iw (f:Nat) (M:eP) (A:List Int):SProp:=gt fun x:Nat × Nat × Value=>
 iW (x.2.1≤A.length)*(blk f (.cells #[.map (some x.1),x.2.2] 239)*(iR x.1 x.2.1 M*own 3 1 x.2.2 A.length (A.map iv)))
theorem xF {w0 w:World} {f:Nat} {M:eP} {A:List Int} {F:SProp} (h:St w0 w (iw f M A*F)):∃ m n v,n≤A.length∧St w0 w (blk f (.cells #[.map (some m),v] 239)*(iR m n M*(own 3 1 v A.length (A.map iv)*F))):=by
 obtain⟨⟨m,n,v⟩,h⟩:=h.ex_l;obtain⟨h1,h⟩:=(h.perm (bk _ _ _)).pure_l;exact⟨m,n,v,h1,h.perm (by simp only[bk])⟩
theorem pA {w0 w:World} {f m n:Nat} {v:Value} {M:eP} {A:List Int} {F:SProp} (hn:n≤A.length) (h:St w0 w (blk f (.cells #[.map (some m),v] 239)*(iR m n M*(own 3 1 v A.length (A.map iv)*F)))):St w0 w (iw f M A*F):=by
 refine St.mk_ex_l (m,n,v) ?_;exact(St.mk_pure_l hn h).perm (by simp only[bk])
theorem F8 (L B M O F:SProp):L*(B*(M*(O*F)))=O*(L*(B*(M*F))):=by ac_rfl
theorem F9 (L B M O F:SProp):O*(L*(B*(M*F)))=L*(B*(M*(O*F))):=by ac_rfl
theorem Ga (B M O F:SProp):B*(M*(O*F))=O*(B*(M*F)):=by ac_rfl
theorem Gb (B M O F:SProp):O*(B*(M*F))=B*(M*(O*F)):=by ac_rfl
theorem xG {w:World} {a:Addr} {n cap:Nat} {xs:List Value} (h:Reads w 1 (.slice (some a) n cap) n xs):n≤cap∧cap≤maxLen:=by
 obtain⟨_,⟨e,_⟩ | ⟨x,c,e,h1,h2,_⟩⟩:=h
 ·cases e
 ·cases e;exact⟨h1,h2⟩
theorem ke {w:World} {b off n cap i:Nat} {bs:List UInt8} (h:Reads w 1 (.slice (some ⟨b,off,none⟩) n cap) n (bs.map bv)) (hn:bs.length=n) (hi:i<n):w.cell? ⟨b,off+i,none⟩=some (.int .u8 ((bs.getD i 0).toNat:Int)):=by
 obtain⟨b',off',e,hc⟩:=h.at_ hi;cases e;rw[hc];simp [hn,hi,bv]
theorem xH {w0 w:World} {F:SProp} {f:Nat} {M:eP} {A:List Int} {b:List UInt8} {v:Value} (h:St w0 w (iw f M A*F)) (hv:Stb w0 F (fun w=>Reads w 1 v b.length (b.map bv))) {i:Nat} (ok:FOk b i M A) (hi:i<b.length) (hl:b.length≤1000000):
  Calls Tryz.prog 173 #[.pointer (some ⟨f,0,none⟩),v,.int .i64 (i:Int)] w fun e w'=>e= .returned (.tuple #[])∧∃ M' A',St w0 w' (iw f M' A'*F)∧FOk b (i+1) M' A':=by
 obtain⟨ab,cb,rfl⟩:=(hv w h.right).sub;have hlenA:=ok.len;obtain⟨m,n,va,hn,hst⟩:=xF h;clear h;have c0:=hst.cell 0 rfl;have c1:=hst.cell 1 rfl;have f1:=hst.free 1;obtain⟨aa,ca,rfl⟩:=hst.right.right.reads.sub;have T:=fA;have HST:=ac hst;have HV:=ac hv;have OK:=ac ok;clear hst hv ok;rw[hlenA] at c1;have HLA:=ac hlenA;have hA6:A.length≤1000000:=by omega
 obtain⟨xb,off,rfl,_⟩:=(HV.out _ HST.out.right.right.right).at_ hi;obtain⟨hcb,hcb2⟩:=xG (HV.out _ HST.out.right.right.right);unfold maxLen at hcb2;obtain⟨L,hL⟩:∃ L,b.length=L:=⟨_,rfl⟩;rw[hL] at HV hi hl hcb;simp only[hL];have HL:=ac hL;clear hL hlenA;go_enter Tryz.func173,Tryz.ntmps173;go_wp2_with (at_builtin;apply ag);have hA:=HST.out.lit #[.int .i64 (-1)] 3 1 rfl (by decide);have hrd:=hA.reads;have hA':=hA.perm (F8 _ _ _ _ _);rw[HLA.out] at hA';refine on (aC T rfl (.tmp 13) (.tmp 14) rfl rfl hA' rfl hrd (dS [-1]) (by unfold maxLen;omega) (by omega) ?_);intro v2 w2 h2 _;have h2':St w0 w2 (own 3 1 (.slice (some ⟨w.heap.size,0,none⟩) 1 1) 1 [.int .i64 (-1)]*(blk f (.cells #[.map (some m),.slice aa i ca] 239)*(iR m n M*(own 3 1 v2 (i+1) ((A++[-1]).map iv)*F)))):=by
  rw[List.map_append];exact h2.perm (F9 _ _ _ _ _)
 have h3:=h2'.right;obtain⟨a2,k2,rfl⟩:=h3.right.right.reads.sub;have f2:=h3.free 1;have e1:=h3.cell 1 rfl;have iI:(i:Int)<L:=by omega
 have iC:(i:Int)≤cb:=by omega
 have h4:St w0 (w2.setCell ⟨f,1,none⟩ (.slice a2 (i+1) k2)) (blk f (.cells #[.map (some m),.slice a2 (i+1) k2] 239)*(iR m n M*(own 3 1 (.slice a2 (i+1) k2) (i+1) ((A++[-1]).map iv)*F))):=h3.set 1 (.slice a2 (i+1) k2);have H4:=ac h4;have hA1:(A++[-1]).length=i+1:=by rw[ae,HLA.out];rfl
 have HA1:=ac hA1;clear h2 h2' h3 h4 hA hA' hrd hA1 c0 c1 f1
 by_cases h3:L<i+3
 ·have h3I:(L:Int)<i+3:=by omega
  go_wp2_with fail
  (try simp only[Exit.inBlock,Exit.then])
  refine bodyPost_ret (results_none rfl _ _ _) rfl ?_;refine⟨rfl,M,A++[-1],pA (n:=n) (by rw[HA1.out];have:=HLA.out;omega) (H4.out.perm (by rw[HA1.out])),OK.out.short (by rw[HL.out];exact h3)⟩
 have h3I:¬ (L:Int)<i+3:=by omega
 go_wp2_with fail;generalize w2.setCell ⟨f,1,none⟩ (.slice a2 (i+1) k2)=W3 at*
 have hrb:=HV.out _ H4.out.right.right.right;have b0:=ke hrb HL.out (i:=i) (by omega);have b1:=ke hrb HL.out (i:=i+1) (by omega);have b2:=ke hrb HL.out (i:=i+2) (by omega);rw[← ec] at b1 b2;have x0:=bh (b.getD i 0);have x1:=bh (b.getD (i+1) 0);have x2:=bh (b.getD (i+2) 0);have HAT:=ac (xD (n:=L-i) (cap:=cb-i) (by omega) x0 x1 x2 b0 b1 b2);have hk3:(b.getD i 0).toNat*65536+(b.getD (i+1) 0).toNat*256+(b.getD (i+2) 0).toNat=key3 b i:=rfl;rw[hk3] at HAT;have HK3:=ac (rfl:key3 b i=key3 b i);have hklt:=xC b i;clear hrb b0 b1 b2 x0 x1 x2 hk3 f2 e1;obtain⟨q,hq⟩:∃ q,key3 b i=q:=⟨_,rfl⟩;rw[hq] at HAT hklt;have HQ:=ac hq;clear hq HK3;refine HAT.out.mono ?_;rintro e w4 ⟨rfl,m1,rfl⟩;have h5:=H4.out.drewN m1;have H5:=ac h5;have g0:=h5.cell 0 rfl;have g1:=h5.cell 1 rfl;have h6:=h5.perm (af _ _ _);obtain⟨D,hD,hown,_⟩:=nc h6;obtain⟨hhas,hat0⟩:=hD.2 q (by omega);have HD:=ac hD;have HOWN:=ac hown;have HKL:=ac (pz (p:=q) (by omega));have HZ:=ac (fun w=>(show(zeroValue 3).run Tryz.prog w= .ok (.int .i64 0) w by kernel_rfl));clear h5 h6 hD hown H4 HAT;generalize W3.drewN m1=W4 at*
 go_wp2_with (at_lookup;apply ag);refine on (wpList_lookup_own_ok_int _ rfl _ _ 237 rfl 3 3 .i64 nk Tryz.underlying237 Tryz.underlying3 (HZ.out _) m _ D rfl HOWN.out _ _ rfl HKL.out ?_);intro c' hat hwf;rw[hhas];cases hM:M q with
 | some r=>
  have hcr:c'=r:=by
   have:=hat0 r hM;rw[hat] at this;simpa using this
  subst hcr;have hri:=OK.out.val q r hM;obtain⟨g2,rfl⟩:=bR H5.out.right.right (by omega);have hget:=St.own_cell (i:=i) (u:= .int .i64 (-1)) H5.out.right.right (by rw[au,dh (by rw[HLA.out];omega),HLA.out,du];rfl);have hfr:=St.own_free H5.out.right.right i;have iI1:(i:Int)<i+1:=by omega
  have hset:=(St.own_set (H5.out.perm (Ga _ _ _ _)) i (.int .i64 (r:Int)));have e1:((A++[-1]).map iv).set i (.int .i64 (r:Int))=(((A++[-1]).set i (r:Int))).map iv:=by rw[ez];rfl
  rw[e1] at hset;have hset2:=hset.perm (Gb _ _ _ _);have k0:=hset2.cell 0 rfl;have HSE:=ac hset2;obtain⟨D2,hD2,hown2,_⟩:=nc (hset2.perm (af _ _ _));have HD2:=ac hD2;have HOWN2:=ac hown2;clear hset hset2 hD2 hown2 hat hat0 hhas hM e1;simp only[ze];go_wp2_with (at_mapUpdate;apply ag);refine on (wpList_mapUpdate_own _ rfl _ _ _ 237 rfl 3 3 nk Tryz.underlying237 _ m n D2 rfl HOWN2.out (by unfold maxLen;omega) _ _ _ rfl rfl HKL.out (.lit (.int .i64 (i:Int))) [] (plainElem_int Tryz.underlying3 (sr (by omega))) ?_);intro w6 hown6 hgr6;have h7:=xE (HSE.out.perm (af _ _ _)) (HD2.out.put (r:=i) (by omega)) hown6 hgr6;have H7:=ac (h7.perm (af _ _ _));clear h7;go_wp2_with fail
  go_end0
  have hlen2:((A++[-1]).set i (r:Int)).length=i+1:=by rw[eE,HA1.out]
  refine⟨rfl,iu M q i,(A++[-1]).set i (r:Int),pA (n:=n+1) (by rw[hlen2];have:=HLA.out;omega) (H7.out.perm (by rw[hlen2])),?_⟩;rw[← HQ.out];exact OK.out.note r (by omega)
 | none=>
  obtain⟨D2,hD2,hown2,_⟩:=nc (H5.out.perm (af _ _ _));have HD2:=ac hD2;have HOWN2:=ac hown2;clear hD2 hown2 hat hat0 hhas hM;simp only[zf];go_wp2_with (at_mapUpdate;apply ag);refine on (wpList_mapUpdate_own _ rfl _ _ _ 237 rfl 3 3 nk Tryz.underlying237 _ m n D2 rfl HOWN2.out (by unfold maxLen;omega) _ _ _ rfl rfl HKL.out (.lit (.int .i64 (i:Int))) [] (plainElem_int Tryz.underlying3 (sr (by omega))) ?_);intro w6 hown6 hgr6;have h7:=xE (H5.out.perm (af _ _ _)) (HD2.out.put (r:=i) (by omega)) hown6 hgr6;have H7:=ac (h7.perm (af _ _ _));clear h7;go_wp2_with fail
  go_end0
  refine⟨rfl,iu M q i,A++[-1],pA (n:=n+1) (by rw[HA1.out];have:=HLA.out;omega) (H7.out.perm (by rw[HA1.out])),?_⟩;rw[← HQ.out];exact OK.out.fresh
open Go.Maps (Keyed)
theorem Gc {P:Program} {w:World} {ops:Array Oper} {o:Oper} {a:Act} {K:Act→World→Prop} {Q:Exit→Act→World→Prop} {E:Prop} (hgd:o.guard=none) (m x:Operand) (t:TypeId) (hop:o.op=Op.lookup t m x true)
  (k e:TypeId) (q:IntKind) (Ky:Keyed P k) (ht:P.underlying t=some (.map k e)) (he:P.underlying e=some (.int q)) (hz:(zeroValue e).run P w= .ok (.int q 0) w) (b n:Nat) (D:DataW Unit)
  (hm:a.eval m= .map (some b)) (hown:w.ownsMap P k (plainElem P e) b n D) (key:Value) (kl:Lit) (hx:a.eval x=key) (hkey:keyOf P k key=some kl)
  (hK:∀ c:Int,D.atKey kl (.lit (.int q 0))= .lit (.int q c)→(Lit.int q c).wf=true→K (a.put o.dst (.tuple #[.int q c,.bool (Maps.has D kl)])) w):if Region.wanted o (yielded ops a.tmps)=true then Oper.wp P o a w K Q else E:=by
 have hw:Region.wanted o (yielded ops a.tmps)=true:=by simp [Region.wanted,hgd]
 rw[if_pos hw];obtain⟨v,ps,hrun,hv⟩:=hown.look_ok (zd:= .lit (.int q 0)) (zp:=[]) Ky ht hz (plainElem_int he (by cases q <;> decide)) hkey;obtain⟨c,rfl,hc,hwc⟩:=plainElem_int_inv he hv;unfold Oper.wp;simp [execOp,hop,hm,hx,hrun,Result.andThen];exact hK c (congrArg Prod.fst hc) hwc
structure BestR (b:List UInt8) (i long far:Nat):Prop where
 ok:0<long→1≤far∧far≤i∧far≤32768∧Alike b i (i-far) long
 near:1≤i→i+3≤b.length→key3 b (i-1)=key3 b i→∃ n,Alike b i (i-1) n∧n≤long∧(0<n→long=n→far=1)
theorem Gd {w0 w:World} {F:SProp} {f:Nat} {M:eP} {A:List Int} {b:List UInt8} {v:Value} (h:St w0 w (iw f M A*F)) (hv:Stb w0 F (fun w=>Reads w 1 v b.length (b.map bv))) {i:Nat} (ok:FOk b i M A) (hi:i<b.length) (hl:b.length≤1000000):
  Calls Tryz.prog 172 #[.pointer (some ⟨f,0,none⟩),v,.int .i64 (i:Int)] w fun e w'=>∃ long far:Nat,e= .returned (.tuple #[.int .i64 (long:Int),.int .i64 (far:Int)])∧BestR b i long far∧St w0 w' (iw f M A*F):=by
 obtain⟨ab,cb,rfl⟩:=(hv w h.right).sub;have hlenA:=ok.len;have HH:=ac h;obtain⟨m,n,va,hn,hst⟩:=xF h;clear h;have c0:=hst.cell 0 rfl;have c1:=hst.cell 1 rfl;obtain⟨aa,ca,rfl⟩:=hst.right.right.reads.sub;have HST:=ac hst;have HV:=ac hv;have OK:=ac ok;obtain⟨D,hD,hown,_⟩:=nc (hst.perm (af _ _ _));obtain⟨xb,off,rfl,_⟩:=(hv w hst.right.right.right).at_ hi;obtain⟨hcb,hcb2⟩:=xG (hv w hst.right.right.right);unfold maxLen at hcb2;clear hst hv ok;rw[hlenA] at c1;have HLA:=ac hlenA;obtain⟨L,hL⟩:∃ L,b.length=L:=⟨_,rfl⟩;rw[hL] at HV hi hl hcb;simp only[hL];have HL:=ac hL;have hrb:=HV.out _ HST.out.right.right.right;have HDD:=ac hD;have HOWN:=ac hown;have HFIN:Hid (∀ W,(∃ m,W=w.drewN m)→St w0 W (iw f M A*F)):=ac fun W ⟨m,hm⟩=>by rw[hm];exact HH.out.drewN m
 clear hL hlenA hD hown
 by_cases h3:L<i+3
 ·have h3I:(L:Int)<i+3:=by omega
  go_enter Tryz.func172,Tryz.ntmps172;go_wp2_with fail;go_ret2;exact⟨0,0,rfl,⟨fun h=>by omega,fun _ h=>by have:=HL.out;omega⟩,HFIN.out _ ⟨0,by rw[World.drewN_zero]⟩⟩
 have h3I:¬ (L:Int)<i+3:=by omega
 have iI:(i:Int)<L:=by omega
 have iC:(i:Int)≤cb:=by omega
 have hiL:i≤L:=by omega
 have hne:¬ cb=i:=by omega
 have b0:=ke hrb HL.out (i:=i) (by omega);have b1:=ke hrb HL.out (i:=i+1) (by omega);have b2:=ke hrb HL.out (i:=i+2) (by omega);rw[← ec] at b1 b2;have x0:=bh (b.getD i 0);have x1:=bh (b.getD (i+1) 0);have x2:=bh (b.getD (i+2) 0);have HAT:Hid (∀ m,Calls Tryz.prog 201 #[.slice (some ⟨xb,off+i,none⟩) (L-i) (cb-i)] (w.drewN m) fun e w'=>e= .returned (.int .i64 (key3 b i:Nat))∧∃ m',w'=(w.drewN m).drewN m'):=ac fun m=>xD (n:=L-i) (cap:=cb-i) (by omega) x0 x1 x2 b0 b1 b2
 have hklt:=xC b i;clear hrb b0 b1 b2 x0 x1 x2;obtain⟨q,hq⟩:∃ q,key3 b i=q:=⟨_,rfl⟩;rw[hq] at HAT hklt;have HQ:=ac hq;obtain⟨hhas,hat0⟩:=HDD.out.2 q (by omega);have HKL:=ac (pz (p:=q) (by omega));have HZ:=ac (fun w=>(show(zeroValue 3).run Tryz.prog w= .ok (.int .i64 0) w by kernel_rfl));clear hq;go_enter Tryz.func172,Tryz.ntmps172;go_upto_region 3 with (fail)
 refine wp_region_noPanic ?_;refine gB (S:=fun w':World=>w'.cell? ⟨f,0,none⟩=some (.map (some m))) (k:=8) (by kernel_rfl) ?_;have hS:(fun w':World=>w'.cell? ⟨f,0,none⟩=some (.map (some m))) w.drew:=c0;refine cM 3 [0,1,2] (by kernel_rfl) (fun _ _ _ h=>h) (by assumption) ?_
 iterate 3
  refine cL rfl rfl ⟨?_,fun w=> ?_,?_⟩;rotate_left
  ·(go_simp;try with_reducible rfl)
  simp only[Act.put,sA,sZ,sS]
 refine cK ?_;refine gN 3 rfl (by kernel_rfl) rfl (fun _ _ _ h=>h) (by assumption) ⟨?_,fun w hSw=> ?_,?_⟩;rotate_left
 ·((try dsimp only at hSw);go_simp;try with_reducible rfl)
 simp only[Act.put,sA,sZ,sS];refine cM 3 [4,5,6] (by kernel_rfl) (fun _ _ _ h=>h) (by assumption) ?_
 iterate 3
  refine cL rfl rfl ⟨?_,fun w=> ?_,?_⟩;rotate_left
  ·(go_simp;try with_reducible rfl)
  simp only[Act.put,sA,sZ,sS]
 refine cK ?_;clear hS;refine aW (i:=7) (by kernel_rfl) ?_;refine wpOp_step (by rfl) fun K hK=> ?_
 go_simp;refine(HAT.out 1).mono ?_;rintro e w4 ⟨rfl,m1,rfl⟩;refine hK _ _ ⟨fun e=>c0,?_⟩;clear hK K;refine aW (i:=8) (by kernel_rfl) ?_;refine wpOp_step (by rfl) fun K hK=> ?_
 refine Gc rfl _ _ 237 rfl 3 3 .i64 nk Tryz.underlying237 Tryz.underlying3 (HZ.out _) m n D rfl HOWN.out _ _ rfl HKL.out ?_;intro c' hat hwf;rw[hhas];refine hK _ _ ⟨fun e=>c0,?_⟩;clear hK K;have hS:(fun w':World=>w'.cell? ⟨f,0,none⟩=some (.map (some m))) ((w.drewN 1).drewN m1):=c0;refine cM 5 [9,10,11,12,13] (by kernel_rfl) (fun _ _ _ h=>h) (by assumption) ?_
 iterate 5
  refine cL rfl rfl ⟨?_,fun w=> ?_,?_⟩;rotate_left
  ·(go_simp;try with_reducible rfl)
  simp only[Act.put,sA,sZ,sS]
 refine cK ?_;clear hS;refine⟨(by kernel_rfl),NoPanic.normal ?_⟩;rw[World.drewN_drewN];have hMM:∀ r,M q=some r→c'=r:=fun r hr=>by
  have:=hat0 r hr;rw[hat] at this;simpa using this
 have hnear:1≤i→key3 b (i-1)=key3 b i→∃ r,M q=some r∧r+1=i:=fun h1 hk=>by
  obtain⟨k',g1,g2⟩:=OK.out.last (i-1) (by omega) (by rw[HL.out];omega);rw[hk,HQ.out] at g1;have:=OK.out.val q k' g1;exact⟨k',g1,by omega⟩
 have HNE:=ac hnear;have HMM:=ac hMM;clear hat hat0 hhas hnear hMM hwf;cases hM:M q with
 | none=>
  simp only[zf];have HNO:=ac hM;clear hM;go_wp2_with fail;go_ret2;refine⟨0,0,rfl,⟨fun h=>by omega,fun h1 _ hk=> ?_⟩,HFIN.out _ ⟨_,rfl⟩⟩;obtain⟨r,hr,_⟩:=HNE.out h1 hk;rw[HNO.out] at hr;cases hr
 | some r0=>
  simp only[ze];have hc0:c'=r0:=HMM.out r0 hM;subst hc0;have hri:=OK.out.val q r0 hM;have HM0:=ac hM;clear hM;go_wp2_with fail
  go_loopw [8,10,11,12,32] (fun vk vl vf vn vi wr=>∃ (c long far:Nat) (kk:Int),vi= .int .i64 c∧c≤64∧vk= .int .i64 kk∧ -1≤kk∧kk<i∧vl= .int .i64 long∧vf= .int .i64 far∧
   (0<long→1≤far∧far≤i∧far≤32768∧Alike b i (i-far) long)∧long≤258∧
   (1≤i→i+3≤b.length→key3 b (i-1)=key3 b i→(c=0∧kk+1=i∧long=0)∨∃ n,Alike b i (i-1) n∧n≤long∧(0<n→long=n→far=1))∧∃ m,wr=w.drewN m) (fun _ _ _ _ vi _=>64-(intOf vi).toNat)
  case atStart=>
   refine⟨0,0,0,r0,rfl,by omega,rfl,by omega,by omega,rfl,rfl,(fun h=>by omega),by omega,fun h1 _ hk=> .inl ⟨rfl,?_,rfl⟩,_,rfl⟩;obtain⟨r,hr,hr2⟩:=HNE.out h1 hk;rw[HM0.out] at hr;cases hr;omega
  case round=>
   obtain⟨c,long,far,kk,rfl,hc,rfl,hk0,hki,rfl,rfl,hlong,hl258,hnr,m2,rfl⟩:=hrel;have HLO:=ac hlong;have HNR:=ac hnr;clear hlong hnr
   by_cases hc64:c<64
   ·have hcI:(c:Int)<64:=by omega
    by_cases hkn:kk<0
    ·have hkb:decide (kk<0)=true:=decide_eq_true hkn;go_wp2_with fail;go_ret2;refine⟨long,far,rfl,⟨HLO.out,fun h1 h2 hk=> ?_⟩,HFIN.out _ ⟨_,rfl⟩⟩
     rcases HNR.out h1 h2 hk with ⟨_,h,_⟩ | h
     ·omega
     ·exact h
    ·obtain⟨k,rfl⟩:∃ k:Nat,kk=k:=⟨kk.toNat,by omega⟩;have hkp:¬ ((k:Int)<0):=by omega
     have hsub:(i:Int)-k=((i-k:Nat):Int):=by omega
     by_cases hfar:32768<i-k
     ·have hfI:(32768:Int)<((i-k:Nat):Int):=by omega
      clear hkn;have HIK:=ac (show 32768<i-k from hfar);obtain⟨ik,hik⟩:∃ ik,i-k=ik:=⟨_,rfl⟩;rw[hik] at hsub hfI hfar;go_wp2_with fail;go_ret2;refine⟨long,far,rfl,⟨HLO.out,fun h1 h2 hk=> ?_⟩,HFIN.out _ ⟨_,rfl⟩⟩
      rcases HNR.out h1 h2 hk with ⟨_,h,_⟩ | h
      ·omega
      ·exact h
     ·have hfI:¬ (32768:Int)<((i-k:Nat):Int):=by omega
      have hAL:=ac (fun(m:Nat)=>F5 (w:=w.drewN m) (v:= .slice (some ⟨xb,off,none⟩) L cb) (b:=b) (by rw[HL.out];exact(HV.out _ (HST.out.drewN m).right.right.right)) (i:=i) (k:=k) (by omega) (by rw[HL.out];omega) (by rw[HL.out];omega));have hcellk:∃ z:Int,w.cell? ⟨(0:Nat),0,none⟩=w.cell? ⟨(0:Nat),0,none⟩∧A[k]? =some z:=⟨A[k]'(by rw[HLA.out];omega),rfl,ai _⟩;obtain⟨z,_,hz⟩:=hcellk;obtain⟨hz1,hz2⟩:=OK.out.low k z hz;obtain⟨ga,rfl⟩:=bR (HST.out.right.right) (by rw[HLA.out];omega);have hcz:=St.own_cell (i:=k) (u:= .int .i64 z) HST.out.right.right (by rw[au,hz];rfl);clear hkn;have hk1:1≤i-k:=by omega
      have hkI:(k:Int)<i:=by omega
      have HIK:=ac (show i-(i-k)=k by omega);have HIK2:=ac (show i-k≤i∧i-k≤32768 by omega);obtain⟨ik,hik⟩:∃ ik,i-k=ik:=⟨_,rfl⟩;rw[hik] at hsub hfI hfar hk1 HIK HIK2;have hik6:ik≤1000000:=by omega
      go_wp2_with (go_at_call 202;refine(hAL.out _).mono ?_;rintro e w7 ⟨n7,rfl,hal,m7,rfl⟩;have HAL:=ac hal;clear hal;apply ag);refine on ?_;have hn258:=HAL.out.le;have hNR2:Hid (∀ l2 f2,((l2=long∧f2=far∧n7≤long)∨(l2=n7∧f2=ik∧long<n7))→1≤i→i+3≤b.length→key3 b (i-1)=key3 b i→∃ n,Alike b i (i-1) n∧n≤l2∧(0<n→l2=n→f2=1)):=ac fun l2 f2 g h1 h2 hk=>by
       rcases HNR.out h1 h2 hk with ⟨_,h,hl0⟩ | ⟨n,h,h',hf⟩
       ·obtain rfl:k=i-1:=by omega
        have hIK:=HIK.out;refine⟨n7,HAL.out,?_,fun g0 g1=> ?_⟩
        ·rcases g with ⟨a,_,c⟩ | ⟨a,_,c⟩ <;> omega
        ·rcases g with ⟨a,a2,c⟩ | ⟨a,a2,c⟩
         ·omega
         ·have hIK2:=HIK2.out;omega
       ·refine⟨n,h,?_,fun g0 g1=> ?_⟩
        ·rcases g with ⟨a,_,c⟩ | ⟨a,_,c⟩ <;> omega
        ·rcases g with ⟨a,a2,c⟩ | ⟨a,a2,c⟩
         ·rw[a2];exact hf g0 (by omega)
         ·omega
      by_cases hgt:long<n7
      ·have hgI:(long:Int)<n7:=by omega
       go_wp2_with fail;refine⟨⟨c+1,n7,ik,z,by go_num,by omega,rfl,hz1,by omega,rfl,rfl,(fun _=>⟨hk1,HIK2.out.1,HIK2.out.2,by rw[HIK.out];exact HAL.out⟩),hn258,(fun h1 h2 hk=> .inr (hNR2.out n7 ik (.inr ⟨rfl,rfl,hgt⟩) h1 h2 hk)),_,rfl⟩,by simp [intOf];omega⟩
      ·have hgI:¬ (long:Int)<n7:=by omega
       go_wp2_with fail;refine⟨⟨c+1,long,far,z,by go_num,by omega,rfl,hz1,by omega,rfl,rfl,HLO.out,hl258,(fun h1 h2 hk=> .inr (hNR2.out long far (.inl ⟨rfl,rfl,by omega⟩) h1 h2 hk)),_,rfl⟩,by simp [intOf];omega⟩
   ·obtain rfl:c=64:=by omega
    have hcI:¬ (((64:Nat):Int)<64):=by decide
    go_wp2_with fail;go_ret2;refine⟨long,far,rfl,⟨HLO.out,fun h1 h2 hk=> ?_⟩,HFIN.out _ ⟨_,rfl⟩⟩
    rcases HNR.out h1 h2 hk with ⟨h,_,_⟩ | h
    ·omega
    ·exact h
end Go.Proofs.YtboflbdniogcdaaGreatDoor
namespace Go.Proofs.YtboflbdniogcdaaGreatDoor
open Go.RowKit Go.Mz
theorem Ge:ElemT Tryz.prog 179 242 3 24 (.agg #[.int .u8 0,.int .i64 0,.int .i64 0]):=
 ⟨Tryz.underlying179,info_parts (by kernel_rfl),rfl,by decide⟩
def pB (b:List UInt8) (i:Nat) (k:TokD):Prop:=1≤i→i+3≤b.length→key3 b (i-1)=key3 b i→∃ n:Nat,Alike b i (i-1) n∧(n:Int)≤k.len∧(0<n→k.len=n→k.dist=1)
def ChnT (b:List UInt8):Nat→List TokD→Nat→Prop
 | i,[],j=>i=j
 | i,k::r,j=>∃ m,StepT b i k m∧pB b i k∧ChnT b m r j
theorem ChnT.tells {b:List UInt8}:∀ {l:List TokD} {i j:Nat},ChnT b i l j→TellsTo b i l j:=by
 intro l
 induction l with
 | nil=>intro i j h;exact h
 | cons k l ih=>rintro i j ⟨m,h1,_,h2⟩;exact⟨m,h1,ih h2⟩
theorem ChnT.snoc {b:List UInt8} {k:TokD} {m:Nat}:∀ {l:List TokD} {i j:Nat},ChnT b i l j→StepT b j k m→pB b j k→ChnT b i (l++[k]) m:=by
 intro l
 induction l with
 | nil=>intro i j h s n;cases h;exact⟨m,s,n,rfl⟩
 | cons x l ih=>rintro i j ⟨y,h1,h2,h3⟩ s n;exact⟨y,h1,h2,ih h3 s n⟩
theorem Gf {b:List UInt8} {i k:Nat} (h:key3 b k=key3 b i):∀ t,t<3→b.getD (i+t) 0=b.getD (k+t) 0:=by
 have a0:=bh (b.getD i 0);have a1:=bh (b.getD (i+1) 0);have a2:=bh (b.getD (i+2) 0);have c0:=bh (b.getD k 0);have c1:=bh (b.getD (k+1) 0);have c2:=bh (b.getD (k+2) 0);unfold key3 at h;intro t ht;apply lc.1;have:t=0∨t=1∨t=2:=by omega
 rcases this with rfl | rfl | rfl
 ·rw[fL,fL];omega
 ·omega
 ·omega
theorem Gg {b:List UInt8} {i n:Nat} (h3:i+3≤b.length) (hk:key3 b (i-1)=key3 b i) (h:Alike b i (i-1) n):3≤n:=by
 rcases cf n 3 with hn | hn
 ·rcases h.end_ with e | e | e
  ·omega
  ·omega
  ·exact absurd (Gf hk n hn) e
 ·exact hn
theorem Gh {b:List UInt8} {i:Nat} (hi:i<b.length):StepT b i ⟨b.getD i 0,0,0⟩ (i+1):=by
 refine⟨by omega,by omega,.inl rfl,?_⟩;rw[putT,if_pos rfl,List.take_succ_eq_append_getElem hi,List.getD_eq_getElem?_getD,ai hi];rfl
theorem Gi {b:List UInt8} {i long far:Nat} (h:BestR b i long far) (hl:3≤long):StepT b i ⟨0,long,far⟩ (i+long):=by
 obtain⟨h1,h2,h3,al⟩:=h.ok (by omega);have hf:=al.fit;have h258:=al.le;refine⟨by omega,hf,.inr ⟨by show(3:Int)≤(long:Int);omega,by show(long:Int)≤258;omega,by show(1:Int)≤(far:Int);omega,by show(far:Int)≤_;rw[lG (by omega)];omega,by show(far:Int)≤32768;omega⟩,?_⟩;rw[putT,if_neg (by show ¬ (long:Int)=0;omega)];show dP (far:Int).toNat (long:Int).toNat (b.take i)=_;rw[gq,gq];refine Fn b long i far h1 h2 hf fun t ht=> ?_
 have e:=al.eq t ht;rw[show i-far+t=i+t-far by omega] at e;rw[List.getD_eq_getElem?_getD,List.getD_eq_getElem?_getD,ai (by omega),ai (by omega)] at e;rw[ai (by omega),ai (by omega)];exact congrArg some e
theorem xI (l m:List TokD):bP (l++m)=bP l++bP m:=by simp [bP]
theorem xJ (l:List TokD):∀ u∈bP l,u.oneCell'=true:=by
 intro u hu;obtain⟨p,_,hp⟩:=iS.1 hu;simp only[jK,List.mem_cons,td,or_false] at hp
 rcases hp with rfl | rfl | rfl <;> rfl
theorem xK {w0 w:World} {F:SProp} {b:List UInt8} {v:Value} (h:St w0 w F) (hv:Stb w0 F (fun w=>Reads w 1 v b.length (b.map bv))) (hl:b.length≤1000000):
  Calls Tryz.prog 135 #[v] w fun e w'=>∃ v' T,e= .returned v'∧ChnT b 0 T b.length∧St w0 w' (own 242 3 v' T.length (bP T)*F):=by
 obtain⟨ab,cb,rfl⟩:=(hv w h).sub;have T:=Ge;have h0:St w0 (w.alloc (.cells #[] 242)) (own 242 3 (.slice (some ⟨w.heap.size,0,none⟩) 0 0) 0 []*F):=St.own_blk (h.alloc (.cells #[] 242)) (Nat.le_refl _) (Nat.zero_le _) rfl rfl;have h1:=F6 h0;have s1:(w.alloc (.cells #[] 242)).heap.size=w.heap.size+1:=by simp
 rw[s1] at h1;have h2:=((h1.own_nil 3 1).alloc (.cells #[.map (some (w.heap.size+1)),.slice none 0 0] 239));have s2:((w.alloc (.cells #[] 242)).alloc (.map #[] 0)).heap.size=w.heap.size+2:=by simp
 rw[s2] at h2;have h3:=pA (A:=[]) (M:=kV) (n:=0) (Nat.le_refl _) (h2.perm (show _=blk (w.heap.size+2) (.cells #[.map (some (w.heap.size+1)),.slice none 0 0] 239)*(iR (w.heap.size+1) 0 kV*(own 3 1 (.slice none 0 0) ([]:List Int).length (([]:List Int).map iv)*(own 242 3 (.slice (some ⟨w.heap.size,0,none⟩) 0 0) 0 []*F))) by
  rw[af (own 3 _ _ _ _) (iR _ _ _)];rfl))
 have H3:=ac (h3.perm (af _ _ _));have H:=ac h;have HV:=ac hv;obtain⟨L,hL⟩:∃ L,b.length=L:=⟨_,rfl⟩;rw[hL] at HV hl;simp only[hL];have HL:=ac hL;clear h hv hL h0 h1 h2 h3 s1 s2;have hmm:= @run_makeMap Tryz.prog;go_enter Tryz.func135,Tryz.ntmps135;go_wp2_with fail;generalize hf0:w.heap.size+2=f at*
 go_loopw [3,5,6,7] (fun vo vi vn vf wr=>∃ (i:Nat) (Tk:List TokD) (M:eP) (A:List Int),vi= .int .i64 i∧i≤L∧St w0 wr (own 242 3 vo Tk.length (bP Tk)*(iw f M A*F))∧FOk b i M A∧ChnT b 0 Tk i∧Tk.length≤i) (fun _ vi _ _ _=>L-(intOf vi).toNat)
 case atStart=>exact⟨0,[],kV,[],rfl,by omega,H3.out,FOk.start b,rfl,Nat.le_refl _⟩
 case round=>
  clear H3;obtain⟨i,Tk,M,A,rfl,hi,hst,hok,hch,hTl⟩:=hrel
  by_cases hiL:i<L
  ·have iI:(i:Int)<L:=by omega
   have HB:=ac (Gd (hst.perm (af _ _ _)) (Stb.more HV.out _ |> fun h=>(show Stb w0 (own 242 3 _ Tk.length (bP Tk)*F) (fun w=>Reads w 1 (.slice ab L cb) b.length (b.map bv)) by rw[HL.out];exact h)) hok (by rw[HL.out];exact hiL) (by rw[HL.out];exact hl));have OK:=ac hok;have CH:=ac hch;have HTL:=ac hTl;obtain⟨xb,off,rfl,_⟩:=(HV.out _ hst.right.right).at_ hiL;have hlitc:=ke (HV.out _ hst.right.right) HL.out hiL;obtain⟨ao,co,rfl⟩:=hst.reads.sub;clear hst hok hch hTl hlitc;go_wp2_with (go_at_call 172;refine HB.out.mono ?_;rintro e w4 ⟨long,far,rfl,hbest,h4⟩;have HBE:=ac hbest;have H4:=ac (h4.perm (af _ _ _));clear hbest h4;apply ag);have hll:long≤258:=by
    rcases fM long with e | e
    ·omega
    ·exact(HBE.out.ok e).2.2.2.le
   by_cases h3:long<3
   ·have h3I:(long:Int)<3:=by omega
    have hlit:=ke (HV.out _ H4.out.right.right) HL.out hiL;generalize hbl:b.getD i 0=bl at*
    have HBL:=ac hbl;clear hbl;refine on ?_;go_wp2_with (at_builtin;apply ag);have hA:=(H4.out.alloc (.cells #[.int .u8 (bl.toNat:Int),.int .i64 0,.int .i64 0] 242)).own_blk (size:=3) (n:=1) (cap:=1) (xs:=bP [⟨bl,0,0⟩]) (Nat.le_refl _) (by decide) rfl rfl;have hrd:=hA.reads;have hA':=hA.perm (af _ _ _);refine on (aC T rfl _ _ rfl rfl hA' rfl hrd (xJ _) (by have:=HTL.out;unfold maxLen;omega) (by have:=HTL.out;omega) ?_);intro v5 w5 h5 _;have h5':St w0 w5 (own 242 3 v5 (Tk++[(⟨bl,0,0⟩:TokD)]).length (bP (Tk++[(⟨bl,0,0⟩:TokD)]))*(iw f M A*F)):=by
     rw[xI,ae];exact(h5.perm (af _ _ _)).right
    obtain⟨a5,k5,rfl⟩:=h5'.reads.sub;rw[show(Tk++[(⟨bl,0,0⟩:TokD)]).length=Tk.length+1 by simp] at h5' ⊢;have H5:=ac h5';clear h5 h5' hA hA' hrd;have hstep:=Gh (b:=b) (i:=i) (by rw[HL.out];exact hiL);rw[HBL.out] at hstep;have hnear:pB b i ⟨bl,0,0⟩:=fun g1 g2 g3=>by
     obtain⟨n,al,hn,_⟩:=HBE.out.near g1 g2 g3;have:=Gg g2 g3 al;omega
    have hiN:=hstep.le;rw[HL.out] at hiN;have HCH:=ac (ChnT.snoc CH.out hstep hnear);clear hstep hnear;go_wp2_with fail
    go_loopw [5,40] (fun vi vc wr=>∃ (c:Nat) (M:eP) (A:List Int),c≤1∧vc= .int .i64 c∧vi= .int .i64 (i+c:Nat)∧St w0 wr (own 242 3 (.slice a5 (Tk.length+1) k5) (Tk.length+1) (bP (Tk++[(⟨bl,0,0⟩:TokD)]))*(iw f M A*F))∧FOk b (i+c) M A) (fun _ vc _=>1-(intOf vc).toNat)
    case atStart=>exact⟨0,M,A,by omega,rfl,rfl,H5.out,OK.out⟩
    case round=>
     clear H5 H4;obtain⟨c,M2,A2,hc,rfl,rfl,hst2,hok2⟩:=hrel
     by_cases hcn:c<1
     ·have hcI:(c:Int)<1:=by omega
      have HN:=ac (xH (hst2.perm (af _ _ _)) (show Stb w0 (own 242 3 (.slice a5 (Tk.length+1) k5) (Tk.length+1) (bP (Tk++[(⟨bl,0,0⟩:TokD)]))*F) (fun w=>Reads w 1 (.slice (some ⟨xb,off,none⟩) L cb) b.length (b.map bv)) by rw[HL.out];exact HV.out.more _) hok2 (by rw[HL.out];omega) (by rw[HL.out];exact hl));clear hst2 hok2;have hic6:i+c≤1000000:=by omega
      obtain⟨ic,hic⟩:∃ ic,i+c=ic:=⟨_,rfl⟩;rw[hic] at HN hic6 ⊢;have HIC:=ac hic;clear hic;go_wp2_with (go_at_call 173;refine HN.out.mono ?_;rintro e w7 ⟨rfl,M7,A7,h7,ok7⟩;have H7:=ac (And.intro h7 ok7);clear h7 ok7);refine⟨⟨c+1,M7,A7,by omega,by go_num,congrArg (Value.int .i64) (by have:=HIC.out;omega),H7.out.1.perm (af _ _ _),?_⟩,by simp [intOf];omega⟩;have:=H7.out.2;rw[← HIC.out,ec] at this;exact this
     ·obtain rfl:c=1:=by omega
      have hcI:¬ (((1:Nat):Int)<1):=by decide
      have HST2:=ac hst2;have HOK2:=ac hok2;clear hst2 hok2;go_wp2_with fail;refine⟨⟨i+1,Tk++[⟨bl,0,0⟩],M2,A2,by first | rfl | (congr 1;omega),by omega,by rw[show(Tk++[(⟨bl,0,0⟩:TokD)]).length=Tk.length+1 by simp];exact HST2.out,HOK2.out,HCH.out,by rw[show(Tk++[(⟨bl,0,0⟩:TokD)]).length=Tk.length+1 by simp];have:=HTL.out;omega⟩,by simp [intOf];omega⟩
   ·have h3I:¬ (long:Int)<3:=by omega
    refine on ?_;go_wp2_with (at_builtin;apply ag);have hA:=(H4.out.alloc (.cells #[.int .u8 0,.int .i64 (long:Int),.int .i64 (far:Int)] 242)).own_blk (size:=3) (n:=1) (cap:=1) (xs:=bP [⟨0,long,far⟩]) (Nat.le_refl _) (by decide) rfl rfl;have hrd:=hA.reads;have hA':=hA.perm (af _ _ _);refine on (aC T rfl _ _ rfl rfl hA' rfl hrd (xJ _) (by have:=HTL.out;unfold maxLen;omega) (by have:=HTL.out;omega) ?_);intro v5 w5 h5 _;have h5':St w0 w5 (own 242 3 v5 (Tk++[(⟨0,long,far⟩:TokD)]).length (bP (Tk++[(⟨0,long,far⟩:TokD)]))*(iw f M A*F)):=by
     rw[xI,ae];exact(h5.perm (af _ _ _)).right
    obtain⟨a5,k5,rfl⟩:=h5'.reads.sub;rw[show(Tk++[(⟨0,long,far⟩:TokD)]).length=Tk.length+1 by simp] at h5' ⊢;have H5:=ac h5';clear h5 h5' hA hA' hrd;have hstep:=Gi HBE.out (by omega);have hnear:pB b i ⟨0,long,far⟩:=fun g1 g2 g3=>by
     obtain⟨n,al,hn,hf⟩:=HBE.out.near g1 g2 g3;exact⟨n,al,by show(n:Int)≤(long:Int);omega,fun g0 g4=>by have g4:(long:Int)=n:=g4;have:=hf g0 (by omega);show(far:Int)=1;omega⟩
    have hiN:=hstep.le;rw[HL.out] at hiN;have HCH:=ac (ChnT.snoc CH.out hstep hnear);clear hstep hnear;go_wp2_with fail
    go_loopw [5,40] (fun vi vc wr=>∃ (c:Nat) (M:eP) (A:List Int),c≤long∧vc= .int .i64 c∧vi= .int .i64 (i+c:Nat)∧St w0 wr (own 242 3 (.slice a5 (Tk.length+1) k5) (Tk.length+1) (bP (Tk++[(⟨0,long,far⟩:TokD)]))*(iw f M A*F))∧FOk b (i+c) M A) (fun _ vc _=>long-(intOf vc).toNat)
    case atStart=>exact⟨0,M,A,by omega,rfl,rfl,H5.out,OK.out⟩
    case round=>
     clear H5 H4;obtain⟨c,M2,A2,hc,rfl,rfl,hst2,hok2⟩:=hrel
     by_cases hcn:c<long
     ·have hcI:(c:Int)<long:=by omega
      have HN:=ac (xH (hst2.perm (af _ _ _)) (show Stb w0 (own 242 3 (.slice a5 (Tk.length+1) k5) (Tk.length+1) (bP (Tk++[(⟨0,long,far⟩:TokD)]))*F) (fun w=>Reads w 1 (.slice (some ⟨xb,off,none⟩) L cb) b.length (b.map bv)) by rw[HL.out];exact HV.out.more _) hok2 (by rw[HL.out];omega) (by rw[HL.out];exact hl));clear hst2 hok2;have hic6:i+c≤1000000:=by omega
      obtain⟨ic,hic⟩:∃ ic,i+c=ic:=⟨_,rfl⟩;rw[hic] at HN hic6 ⊢;have HIC:=ac hic;clear hic;go_wp2_with (go_at_call 173;refine HN.out.mono ?_;rintro e w7 ⟨rfl,M7,A7,h7,ok7⟩;have H7:=ac (And.intro h7 ok7);clear h7 ok7);refine⟨⟨c+1,M7,A7,by omega,by go_num,congrArg (Value.int .i64) (by have:=HIC.out;omega),H7.out.1.perm (af _ _ _),?_⟩,by simp [intOf];omega⟩;have:=H7.out.2;rw[← HIC.out,ec] at this;exact this
     ·have hcl:long=c:=by omega
      subst hcl;have hcI:¬ (((long:Nat):Int)<long):=by omega
      have HST2:=ac hst2;have HOK2:=ac hok2;clear hst2 hok2;go_wp2_with fail;refine⟨⟨i+long,Tk++[⟨0,long,far⟩],M2,A2,by first | rfl | (congr 1;omega),by omega,by rw[show(Tk++[(⟨0,long,far⟩:TokD)]).length=Tk.length+1 by simp];exact HST2.out,HOK2.out,HCH.out,by rw[show(Tk++[(⟨0,long,far⟩:TokD)]).length=Tk.length+1 by simp];have:=HTL.out;omega⟩,by simp [intOf];omega⟩
  ·obtain rfl:i=L:=by omega
   have iI:¬ ((i:Int)<i):=by omega
   have HST:=ac hst;have CH:=ac hch;clear hst hch;go_wp2_with fail;go_ret;exact⟨_,rfl,Tk,CH.out,(HST.out.perm (af _ _ _)).right⟩
end Go.Proofs.YtboflbdniogcdaaGreatDoor
