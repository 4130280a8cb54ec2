/-
  Parts of a proof.
-/
import Derived.Test.YtboflbdniogcdaaGreatDoorK34
import Derived.Test.YtboflbdniogcdaaGreatDoorK20
set_option linter.unusedVariables false
set_option linter.unusedSimpArgs false
set_option maxRecDepth 100000
set_option maxHeartbeats 100000000
namespace Go.Proofs.YtboflbdniogcdaaGreatDoor
open Go.RowKit Go.Mz
theorem gH (w:World) (x:Int):Reads (w.alloc (.cells #[.int .i64 x] 3)) 1 (.slice (some ⟨w.heap.size,0,none⟩) 1 1) 1 ([x].map iv):=
 (St.own_blk (e:=3) (size:=1) (n:=1) (cap:=1) (xs:=[x].map iv) ((St.init w).alloc _) (Nat.le_refl _) (by decide) rfl rfl).reads
def nvs (l:List Nat):List Value:=l.map nv
@[simp] theorem Ey (l:List Nat):(nvs l).length=l.length:=by simp [nvs]
theorem Ez {w0 w:World} {F:SProp} (h:St w0 w F):Calls Tryz.prog 192 #[] w fun e w'=>∃ v,e= .returned v∧St w0 w' (own 3 1 v 19 (nvs be)*F):=by
 have h1:=h.lit (nvs be).toArray 3 19 rfl (by decide);have H1:=ac h1;clear h1 h;go_enter Tryz.func192,Tryz.ntmps192;go_wp2_with fail;go_ret;exact⟨_,rfl,H1.out⟩
theorem j9 (k:Nat):(List.range (k+1)).map cF=(List.range k).map cF++[cF k]:=by rw[gX,List.map_append];rfl
theorem wI {w0 w:World} {F:SProp} (h:St w0 w F):Calls Tryz.prog 157 #[] w fun e w'=>∃ va vb,e= .returned (.tuple #[va,vb])∧St w0 w' (own 3 1 va 288 (nvs dr)*(own 3 1 vb 30 (nvs dG)*F)):=by
 have T:=fA;have H:=ac (St.own_nil 3 1 h);clear h;go_enter Tryz.func157,Tryz.ntmps157;go_wp2_with fail
 go_loopw [2,5] (fun vo vi wr=>∃ k:Nat,k≤288∧vi= .int .i64 k∧St w0 wr (own 3 1 vo k (nvs ((List.range k).map cF))*F)) (fun _ vi _=>288-(intOf vi).toNat)
 case atStart=>exact⟨0,by omega,rfl,H.out⟩
 case round=>
  clear H;obtain⟨k,hk,rfl,hst⟩:=hrel;obtain⟨ao,co,rfl⟩:=hst.reads.sub;have HST:=ac hst;clear hst
  by_cases hkn:k<288
  ·have hkn2:(k:Int)<288:=by omega
   by_cases h144:k<144
   ·have h1:(k:Int)<144:=by omega
    have HX:=ac (show nvs ((List.range k).map cF)++[(8:Int)].map iv=nvs ((List.range (k+1)).map cF) by
     rw[j9,cF,if_pos (.inl h144)];simp [nvs];rfl)
    clear h144;go_wp2_with (at_builtin;apply ag);refine on (aC T rfl _ _ rfl rfl (HST.out.drop_alloc (.cells #[.int .i64 8] 3)) rfl (gH wr 8) (dS [8]) ?_ ?_ ?_)
    ·unfold maxLen;omega
    ·omega
    intro v' w7 h9 _;rw[HX.out] at h9;obtain⟨aN,cN,rfl⟩:=h9.reads.sub;have H9:=ac h9;clear h9;go_wp2_with fail;exact⟨⟨k+1,by omega,by go_num,H9.out⟩,by simp [intOf];omega⟩
   have h1:¬ (k:Int)<144:=by omega
   by_cases h280:280≤k
   ·have h2:280≤(k:Int):=by omega
    have HX:=ac (show nvs ((List.range k).map cF)++[(8:Int)].map iv=nvs ((List.range (k+1)).map cF) by
     rw[j9,cF,if_pos (.inr h280)];simp [nvs];rfl)
    clear h144 h280;go_wp2_with (at_builtin;apply ag);refine on (aC T rfl _ _ rfl rfl (HST.out.drop_alloc (.cells #[.int .i64 8] 3)) rfl (gH wr 8) (dS [8]) ?_ ?_ ?_)
    ·unfold maxLen;omega
    ·omega
    intro v' w7 h9 _;rw[HX.out] at h9;obtain⟨aN,cN,rfl⟩:=h9.reads.sub;have H9:=ac h9;clear h9;go_wp2_with fail;exact⟨⟨k+1,by omega,by go_num,H9.out⟩,by simp [intOf];omega⟩
   have h2:¬ 280≤(k:Int):=by omega
   by_cases h256:k<256
   ·have h3:(k:Int)<256:=by omega
    have HX:=ac (show nvs ((List.range k).map cF)++[(9:Int)].map iv=nvs ((List.range (k+1)).map cF) by
     rw[j9,cF,if_neg (by omega),if_pos h256];simp [nvs];rfl)
    clear h144 h280 h256;go_wp2_with (at_builtin;apply ag);refine on (aC T rfl _ _ rfl rfl (HST.out.drop_alloc (.cells #[.int .i64 9] 3)) rfl (gH wr 9) (dS [9]) ?_ ?_ ?_)
    ·unfold maxLen;omega
    ·omega
    intro v' w7 h9 _;rw[HX.out] at h9;obtain⟨aN,cN,rfl⟩:=h9.reads.sub;have H9:=ac h9;clear h9;go_wp2_with fail;exact⟨⟨k+1,by omega,by go_num,H9.out⟩,by simp [intOf];omega⟩
   ·have h3:¬ (k:Int)<256:=by omega
    have HX:=ac (show nvs ((List.range k).map cF)++[(7:Int)].map iv=nvs ((List.range (k+1)).map cF) by
     rw[j9,cF,if_neg (by omega),if_neg h256];simp [nvs];rfl)
    clear h144 h280 h256;go_wp2_with (at_builtin;apply ag);refine on (aC T rfl _ _ rfl rfl (HST.out.drop_alloc (.cells #[.int .i64 7] 3)) rfl (gH wr 7) (dS [7]) ?_ ?_ ?_)
    ·unfold maxLen;omega
    ·omega
    intro v' w7 h9 _;rw[HX.out] at h9;obtain⟨aN,cN,rfl⟩:=h9.reads.sub;have H9:=ac h9;clear h9;go_wp2_with fail;exact⟨⟨k+1,by omega,by go_num,H9.out⟩,by simp [intOf];omega⟩
  ·have hkn2:¬ (k:Int)<288:=by omega
   have HK:=ac (show k=288 by omega);have H2:=ac (St.own_nil 3 1 HST.out);clear HST;go_wp2_with fail
   go_loopw [3,26] (fun vo vi wr=>∃ j:Nat,j≤30∧vi= .int .i64 j∧St w0 wr (own 3 1 vo j (nvs (List.replicate j 5))*(own 3 1 (.slice ao k co) k (nvs ((List.range k).map cF))*F))) (fun _ vi _=>30-(intOf vi).toNat)
   case atStart=>exact⟨0,by omega,rfl,H2.out⟩
   case round=>
    clear H2;obtain⟨j,hj,rfl,hst⟩:=hrel;obtain⟨a1,c1,rfl⟩:=hst.reads.sub;have HST:=ac hst;clear hst
    by_cases hjn:j<30
    ·have hjn2:(j:Int)<30:=by omega
     have HX:=ac (show nvs (List.replicate j 5)++[(5:Int)].map iv=nvs (List.replicate (j+1) 5) by
      rw[ft];simp [nvs];rfl)
     go_wp2_with (at_builtin;apply ag);refine on (aC T rfl _ _ rfl rfl (HST.out.drop_alloc (.cells #[.int .i64 5] 3)) rfl (gH wr 5) (dS [5]) ?_ ?_ ?_)
     ·unfold maxLen;omega
     ·omega
     intro v' w7 h9 _;rw[HX.out] at h9;obtain⟨aN,cN,rfl⟩:=h9.reads.sub;have H9:=ac h9;clear h9;go_wp2_with fail;exact⟨⟨j+1,by omega,by go_num,H9.out⟩,by simp [intOf];omega⟩
    ·obtain rfl:j=30:=by omega
     go_wp2_with fail;go_ret2;refine⟨_,_,rfl,?_⟩;have h3:=HST.out.perm (af _ _ _);have e:=HK.out;subst e;exact h3
theorem wJ:ElemT Tryz.prog 263 283 2 16 (.agg #[.int .i64 0,.int .i64 0]):=
 ⟨Tryz.underlying263,info_parts (by kernel_rfl),rfl,by decide⟩
def jI (b:Nat × Nat):List Value:=[nv b.1,nv b.2]
def dI (l:List (Nat × Nat)):List Value:=l.flatMap jI
theorem kP (l:List (Nat × Nat)) (b:Nat × Nat):dI (l++[b])=dI l++jI b:=by simp [dI]
theorem kQ (w:World) (p q:Nat):Reads (w.alloc (.cells #[.int .i64 (p:Int),.int .i64 (q:Int)] 283)) 2 (.slice (some ⟨w.heap.size,0,none⟩) 1 1) 1 (jI (p,q)):=
 (St.own_blk (e:=283) (size:=2) (n:=1) (cap:=1) (xs:=jI (p,q)) ((St.init w).alloc _) (Nat.le_refl _) (by decide) rfl rfl).reads
theorem kR (b:Nat × Nat):∀ u∈jI b,u.oneCell'=true:=by
 intro u hu;simp [jI] at hu
 rcases hu with rfl | rfl <;> rfl
theorem EA:∀ k,k≤28→fE k≤300:=by decide
theorem EB:∀ k,k≤30→fF k≤40000:=by decide
def mS (k:Nat):List (Nat × Nat):=(List.range k).map fun k=>(fE k,k/4-1)
def mT (k:Nat):List (Nat × Nat):=(List.range k).map fun k=>(fF k,k/2-1)
theorem EC (k:Nat):mS (k+1)=mS k++[(fE k,k/4-1)]:=by rw[mS,gX,List.map_append];rfl
theorem ED (k:Nat):mT (k+1)=mT k++[(fF k,k/2-1)]:=by rw[mT,gX,List.map_append];rfl
theorem wK {f x:Nat} (hf:f≤40000) (hx:x≤14):wrap64 ((f:Int)+wrap64 (2^x))=((f+2^x:Nat):Int):=by
 have h1:(2:Int)^x=((2^x:Nat):Int):=by simp
 have h2:2^x≤2^14:=dX (by decide) hx;rw[h1];generalize 2^x=y at*
 unfold wrap64;omega
theorem wL {w0 w:World} {F:SProp} (h:St w0 w F):Calls Tryz.prog 187 #[] w fun e w'=>∃ v,e= .returned v∧St w0 w' (own 283 2 v 29 (dI bf)*F):=by
 have T:=wJ;have H:=ac (St.own_nil 283 2 h);clear h;go_enter Tryz.func187,Tryz.ntmps187;go_wp2_with fail
 go_loopw [1,2,5] (fun vo vf vi wr=>∃ k:Nat,k≤28∧vi= .int .i64 k∧vf= .int .i64 (fE k:Nat)∧St w0 wr (own 283 2 vo k (dI (mS k))*F)) (fun _ _ vi _=>28-(intOf vi).toNat)
 case atStart=>exact⟨0,by omega,rfl,rfl,H.out⟩
 case round=>
  clear H;obtain⟨k,hk,rfl,rfl,hst⟩:=hrel;obtain⟨ao,co,rfl⟩:=hst.reads.sub;have HST:=ac hst;clear hst;have hf:=EA k hk
  by_cases hkn:k<28
  ·have hkn2:(k:Int)<28:=by omega
   have HX:=ac (EC k);have HF:=ac (show fE (k+1)=fE k+2^(k/4-1) from rfl);have hxk:k/4-1≤6:=by omega
   have hcs:((k:Int)/4=0∧k/4-1=0)∨((k:Int)/4=1∧k/4-1=0)∨((k:Int)/4=((k/4-1:Nat):Int)+1∧0<k/4-1):=by omega
   generalize k/4-1=x at*
   rcases hcs with ⟨e0,rfl⟩ | ⟨e0,rfl⟩ | ⟨e0,hx0⟩
   ·skip
    go_wp2_with (at_builtin;apply ag);refine on (aC T rfl _ _ rfl rfl (HST.out.drop_alloc (.cells #[.int .i64 (fE k:Nat),.int .i64 (0:Nat)] 283)) rfl (kQ wr (fE k) 0) (kR (fE k,0)) ?_ ?_ ?_)
    ·unfold maxLen;omega
    ·omega
    intro v' w7 h9 _;rw[← kP,← HX.out] at h9;obtain⟨aN,cN,rfl⟩:=h9.reads.sub;have H9:=ac h9;clear h9;go_wp2_with fail;exact⟨⟨k+1,by omega,by go_num,by rw[HF.out];rfl,H9.out⟩,by simp [intOf];omega⟩
   ·skip
    go_wp2_with (at_builtin;apply ag);refine on (aC T rfl _ _ rfl rfl (HST.out.drop_alloc (.cells #[.int .i64 (fE k:Nat),.int .i64 (0:Nat)] 283)) rfl (kQ wr (fE k) 0) (kR (fE k,0)) ?_ ?_ ?_)
    ·unfold maxLen;omega
    ·omega
    intro v' w7 h9 _;rw[← kP,← HX.out] at h9;obtain⟨aN,cN,rfl⟩:=h9.reads.sub;have H9:=ac h9;clear h9;go_wp2_with fail;exact⟨⟨k+1,by omega,by go_num,by rw[HF.out];rfl,H9.out⟩,by simp [intOf];omega⟩
   ·skip
    have hx1:¬ (x:Int)<0:=by omega
    go_wp2_with (at_builtin;apply ag);refine on (aC T rfl _ _ rfl rfl (HST.out.drop_alloc (.cells #[.int .i64 (fE k:Nat),.int .i64 (x:Nat)] 283)) rfl (kQ wr (fE k) x) (kR (fE k,x)) ?_ ?_ ?_)
    ·unfold maxLen;omega
    ·omega
    intro v' w7 h9 _;rw[← kP,← HX.out] at h9;obtain⟨aN,cN,rfl⟩:=h9.reads.sub;have H9:=ac h9;clear h9;go_wp2_with fail;exact⟨⟨k+1,by omega,by go_num,by rw[HF.out];exact gL (wK (by omega) (by omega)),H9.out⟩,by simp [intOf];omega⟩
  ·obtain rfl:k=28:=by omega
   have HX:=ac (show dI (mS 28)++jI (258,0)=dI bf by rw[← kP];rfl);go_wp2_with (at_builtin;apply ag);refine on (aC T rfl _ _ rfl rfl (HST.out.drop_alloc (.cells #[.int .i64 (258:Nat),.int .i64 (0:Nat)] 283)) rfl (kQ wr 258 0) (kR (258,0)) ?_ ?_ ?_)
   ·unfold maxLen;omega
   ·omega
   intro v' w7 h9 _;rw[HX.out] at h9;obtain⟨aN,cN,rfl⟩:=h9.reads.sub;have H9:=ac h9;clear h9;go_wp2_with fail;go_ret;exact⟨_,rfl,H9.out⟩
theorem wM {w0 w:World} {F:SProp} (h:St w0 w F):Calls Tryz.prog 188 #[] w fun e w'=>∃ v,e= .returned v∧St w0 w' (own 283 2 v 30 (dI aY)*F):=by
 have T:=wJ;have H:=ac (St.own_nil 283 2 h);clear h;go_enter Tryz.func188,Tryz.ntmps188;go_wp2_with fail
 go_loopw [1,2,5] (fun vo vf vi wr=>∃ k:Nat,k≤30∧vi= .int .i64 k∧vf= .int .i64 (fF k:Nat)∧St w0 wr (own 283 2 vo k (dI (mT k))*F)) (fun _ _ vi _=>30-(intOf vi).toNat)
 case atStart=>exact⟨0,by omega,rfl,rfl,H.out⟩
 case round=>
  clear H;obtain⟨k,hk,rfl,rfl,hst⟩:=hrel;obtain⟨ao,co,rfl⟩:=hst.reads.sub;have HST:=ac hst;clear hst;have hf:=EB k hk
  by_cases hkn:k<30
  ·have hkn2:(k:Int)<30:=by omega
   have HX:=ac (ED k);have HF:=ac (show fF (k+1)=fF k+2^(k/2-1) from rfl);have hxk:k/2-1≤14:=by omega
   have hcs:((k:Int)/2=0∧k/2-1=0)∨((k:Int)/2=1∧k/2-1=0)∨((k:Int)/2=((k/2-1:Nat):Int)+1∧0<k/2-1):=by omega
   generalize k/2-1=x at*
   rcases hcs with ⟨e0,rfl⟩ | ⟨e0,rfl⟩ | ⟨e0,hx0⟩
   ·skip
    go_wp2_with (at_builtin;apply ag);refine on (aC T rfl _ _ rfl rfl (HST.out.drop_alloc (.cells #[.int .i64 (fF k:Nat),.int .i64 (0:Nat)] 283)) rfl (kQ wr (fF k) 0) (kR (fF k,0)) ?_ ?_ ?_)
    ·unfold maxLen;omega
    ·omega
    intro v' w7 h9 _;rw[← kP,← HX.out] at h9;obtain⟨aN,cN,rfl⟩:=h9.reads.sub;have H9:=ac h9;clear h9;go_wp2_with fail;exact⟨⟨k+1,by omega,by go_num,by rw[HF.out];rfl,H9.out⟩,by simp [intOf];omega⟩
   ·skip
    go_wp2_with (at_builtin;apply ag);refine on (aC T rfl _ _ rfl rfl (HST.out.drop_alloc (.cells #[.int .i64 (fF k:Nat),.int .i64 (0:Nat)] 283)) rfl (kQ wr (fF k) 0) (kR (fF k,0)) ?_ ?_ ?_)
    ·unfold maxLen;omega
    ·omega
    intro v' w7 h9 _;rw[← kP,← HX.out] at h9;obtain⟨aN,cN,rfl⟩:=h9.reads.sub;have H9:=ac h9;clear h9;go_wp2_with fail;exact⟨⟨k+1,by omega,by go_num,by rw[HF.out];rfl,H9.out⟩,by simp [intOf];omega⟩
   ·skip
    have hx1:¬ (x:Int)<0:=by omega
    go_wp2_with (at_builtin;apply ag);refine on (aC T rfl _ _ rfl rfl (HST.out.drop_alloc (.cells #[.int .i64 (fF k:Nat),.int .i64 (x:Nat)] 283)) rfl (kQ wr (fF k) x) (kR (fF k,x)) ?_ ?_ ?_)
    ·unfold maxLen;omega
    ·omega
    intro v' w7 h9 _;rw[← kP,← HX.out] at h9;obtain⟨aN,cN,rfl⟩:=h9.reads.sub;have H9:=ac h9;clear h9;go_wp2_with fail;exact⟨⟨k+1,by omega,by go_num,by rw[HF.out];exact gL (wK (by omega) (by omega)),H9.out⟩,by simp [intOf];omega⟩
  ·obtain rfl:k=30:=by omega
   have HX:=ac (show dI (mT 30)=dI aY from rfl);have h9:=HST.out;rw[HX.out] at h9;have H9:=ac h9;clear h9;go_wp2_with fail;go_ret;exact⟨_,rfl,H9.out⟩
def wN (r:Nat ⊕ (Nat × Nat)) (p:Nat) (z:Int) (x p':Nat):Prop:=
 match r with
 | .inl e=>x=e∧e≠0
 | .inr (q,n)=>x=0∧p'=q∧z=n
theorem EE {l:List (Nat × Nat)} {i:Nat} {b:Nat × Nat} (h:l[i]? =some b):(dI l)[i*2]? =some (nv b.1)∧(dI l)[i*2+1]? =some (nv b.2):=
 ⟨jD jI 2 (fun _=>rfl) l i b h 0 (by omega),jD jI 2 (fun _=>rfl) l i b h 1 (by omega)⟩
theorem rW (ls:List Int):(bL ls).2.2≠0∧(bL ls).1=[]∨∃ l:List Nat,l.length=ls.length∧OkC l∧(∀ n∈l,n≤30)∧bL ls=(aB l,fullC l,0):=by
 rw[bL]
 split
 ·exact .inl ⟨by decide,rfl⟩
 ·rename_i h
  split
  ·rename_i ok;refine .inr ⟨cW ls,by simp [cW],ok,fun n hn=> ?_,rfl⟩;rw[cW,bW] at hn;obtain⟨x,hx,rfl⟩:=hn;have:¬ (x<0∨30<x):=fun hc=>h ⟨x,hx,hc⟩
   omega
  ·exact .inl ⟨by decide,rfl⟩
def iP (l:List Nat):List Int:=l.map fun(n:Nat)=>(n:Int)
theorem EF (l:List Nat):(iP l).map iv=nvs l:=by rw[iP,nvs,eF];rfl
theorem wO (l:List Nat) (n:Nat):usedL (l++[n])=usedL l+(if 0<n then 1 else 0):=by
 rw[usedL,usedL,jx,ae]
 congr 1
 by_cases h:0<n <;> simp [h]
theorem EG (l:List Nat) (n:Nat):longL (l++[n])=max (longL l) n:=by rw[longL,longL,lU];rfl
theorem EH (l:List Nat):usedL l≤l.length:=lh _ _
def rX (r:Nat ⊕ (Nat × List UInt8)) (x p':Nat) (out':List UInt8):Prop:=
 match r with
 | .inl e=>x=e∧e≠0
 | .inr (q,o)=>x=0∧p'=q∧out'=o
theorem EJ (d n:Nat) (out:List UInt8):dP d (n+1) out=dP d n out++[(dP d n out).getD ((dP d n out).length-d) 0]:=by
 induction n generalizing out with
 | zero=>rfl
 | succ n ih=>rw[dP,ih];rfl
theorem oV (d n:Nat) (out:List UInt8):(dP d n out).length=out.length+n:=by
 induction n generalizing out with
 | zero=>rfl
 | succ n ih=>rw[dP,ih];simp;omega
theorem oW:∀ b∈aY,b.1≤100000∧b.2≤13:=by decide
theorem EK:∀ b∈aY,1≤b.1:=by decide
theorem oX:∀ b∈bf,b.1≤100000∧b.2≤13:=by decide
theorem EM {t:List Nat} {i p q d:Nat} (h:dd t aY i p= .inr (q,d)):1≤d:=by
 rw[dd] at h;cases e:aY[i]? with
 | none=>rw[e] at h;cases h
 | some b=>
  rw[e] at h;simp only at h;have:=EK b (aG e)
  split at h
  ·cases h
  ·have:=Sum.inr.inj h;have:=(Prod.mk.inj this).2;omega
theorem EN (out:List UInt8) {i:Nat} (h:i<out.length):(out.map bv)[i]? =some (bv (out.getD i 0)):=by
 rw[au,ai h,List.getD_eq_getElem?_getD,ai h];rfl
theorem wP (w:World) (c:UInt8):Reads (w.alloc (.cells #[.int .u8 (c.toNat:Int)] 5)) 1 (.slice (some ⟨w.heap.size,0,none⟩) 1 1) 1 ([c].map bv):=
 (St.own_blk (e:=5) (size:=1) (n:=1) (cap:=1) (xs:=[c].map bv) ((St.init w).alloc _) (Nat.le_refl _) (by decide) rfl rfl).reads
theorem EO (m:Nat) (h:m<65536):m ^^^ 65535=65535-m:=by
 have h2:(BitVec.ofNat 16 m) ^^^ (BitVec.allOnes 16)= ~~~ (BitVec.ofNat 16 m):=BitVec.xor_allOnes;have h1:=congrArg BitVec.toNat h2;rw[BitVec.toNat_xor,BitVec.toNat_not,BitVec.toNat_ofNat,BitVec.toNat_allOnes,pZ (by omega)] at h1;exact h1
theorem wQ {m:Nat} (h:m<65536):bits .xor .u32 (m:Int) 65535=((65535-m:Nat):Int):=by
 have:=u32_xor_nat m 65535 (by omega) (by decide);rw[EO m h] at this;exact this
theorem wR {c:Nat}:IntKind.u8.wrap (c:Int)=((UInt8.ofNat c).toNat:Int):=by rw[IntKind.wrap_u8'];simp
section
variable {w0 w:World} {S Rb B:Nat} {bs:List UInt8} {p:Nat} {out:List UInt8} {most:Nat} {W:List (List Nat)} {F:SProp}
end
def EP (r:Nat ⊕ (Nat × List Nat)) (v:Value) (x p':Nat) (w0 w':World) (G:Nat→SProp):Prop:=
 match r with
 | .inl e=>x=e∧e≠0∧St w0 w' (G p')
 | .inr (q,all)=>x=0∧p'=q∧St w0 w' (own 3 1 v all.length (nvs all)*G p')
theorem mU {l:List Nat} {how:Nat} {W:List (List Nat)} (h:bM l how= .inr W):W.length=l.length:=by
 rw[bM] at h
 split at h
 ·cases h
 ·split at h
  ·cases h
  ·rename_i h0 _
   rcases rW (l.map fun(n:Nat)=>(n:Int)) with ⟨h1,_⟩ | ⟨l',h1,_,_,h2⟩
   ·exact absurd h1 h0
   ·rw[h2] at h;have:=Sum.inr.inj h;rw[← this];simp [aB];simpa using h1
theorem rY {l:List Nat} {how e:Nat} (h:bM l how= .inl e):e≠0:=by
 rw[bM] at h
 split at h
 ·rename_i h0;have:=Sum.inl.inj h;rw[← this];exact h0
 ·split at h
  ·have:=Sum.inl.inj h;omega
  ·cases h
theorem oY {t:List Nat} {l:List (Nat × Nat)} {i p q d:Nat} (h:dd t l i p= .inr (q,d)):p≤q:=by
 rw[dd] at h;cases e:l[i]? with
 | none=>rw[e] at h;cases h
 | some b=>
  rw[e] at h;simp only at h
  split at h
  ·cases h
  ·have:=(Prod.mk.inj (Sum.inr.inj h)).1;omega
theorem EQ {t:List Nat} {B:List (List Nat)} {most n p q:Nat} {out o:List UInt8} (h:ip t B most n p out= .inr (q,o)):p≤q:=by
 rw[ip] at h
 split at h
 ·cases h
 ·split at h
  ·cases h
  ·rename_i e;have:=oY e
   split at h
   ·cases h
   ·split at h
    ·cases h
    ·have:=(Prod.mk.inj (Sum.inr.inj h)).1;omega
theorem ER {t:List Nat} {W:List (List Nat)} {n:Nat}:∀ (f:Nat) (all:List Nat) (p q:Nat) (l:List Nat),cP t W n f all p= .inr (q,l)→(∀ x∈all,x≤15)→l.length=n∧∀ x∈l,x≤15:=by
 intro f
 induction f with
 | zero=>intro all p q l h;rw[cP] at h;cases h
 | succ f ih=>
  intro all p q l h hal;rw[cP] at h
  by_cases hln:all.length<n
  ·rw[if_pos hln] at h;generalize bG W [] (t.drop p)=r at h;obtain⟨k,r⟩:=r;cases r with
   | inr e=>cases h
   | inl v=>
    simp only at h
    by_cases h16:v<16
    ·rw[if_pos h16] at h;exact ih _ _ _ _ h (fun x hx=>by
      rcases cA.1 hx with hx | hx
      ·exact hal x hx
      ·rw[List.mem_singleton] at hx;omega)
    ·rw[if_neg h16] at h
     by_cases hb:v=16∧all=[]
     ·rw[if_pos hb] at h;cases h
     ·rw[if_neg hb] at h;have hval:(if v=16 then all.getD (all.length-1) 0 else 0)≤15:=by
       split
       ·rw[List.getD_eq_getElem?_getD];cases e:all[all.length-1]? with
        | none=>simp
        | some b=>exact hal b (aG e)
       ·omega
      generalize (if v=16 then all.getD (all.length-1) 0 else 0)=val at*
      generalize (if v=16 then 2 else if v=18 then 7 else 3)=wide at*
      generalize (if v=18 then 11 else 3)=least at*
      by_cases hc:t.length<p+k+wide
      ·rw[if_pos hc] at h;cases h
      ·rw[if_neg hc] at h;refine ih _ _ _ _ h (fun x hx=> ?_)
       rcases cA.1 hx with hx | hx
       ·exact hal x hx
       ·rw[mg] at hx;rw[hx.2];exact hval
  ·rw[if_neg hln] at h
   split at h
   ·cases h
   ·have:=(Prod.mk.inj (Sum.inr.inj h)).2;subst this;exact⟨by omega,hal⟩
theorem Reads.take {w:World} {g n cap:Nat} {xs:List Value} (h:Reads w 1 (.slice (some ⟨g,0,none⟩) n cap) n xs) {k:Nat} (hk:k≤n):Reads w 1 (.slice (some ⟨g,0,none⟩) k cap) k (xs.take k):=by
 obtain⟨hl,⟨h0,_⟩ | ⟨x,c,h1,h2,h3,h4⟩⟩:=h
 ·cases h0
 ·cases h1;refine⟨by rw[aJ,hl];omega,.inr ⟨_,_,rfl,by omega,h3,fun j u hu=>h4 j u ?_⟩⟩;rw[jn] at hu
  split at hu
  ·exact hu
  ·cases hu
theorem Reads.drop {w:World} {g n cap:Nat} {xs:List Value} (h:Reads w 1 (.slice (some ⟨g,0,none⟩) n cap) n xs) {k:Nat} (hk:k≤n):Reads w 1 (.slice (some ⟨g,k,none⟩) (n-k) (cap-k)) (n-k) (xs.drop k):=by
 obtain⟨hl,⟨h0,_⟩ | ⟨x,c,h1,h2,h3,h4⟩⟩:=h
 ·cases h0
 ·cases h1;refine⟨by rw[bH,hl];omega,.inr ⟨_,_,rfl,by omega,by omega,fun j u hu=> ?_⟩⟩;rw[lT] at hu;have:=h4 (k+j) u hu;rw[Addr.add_lit,bQ] at this;rw[Addr.add_lit];exact this
theorem ES:∀ x∈be,x<19:=by decide
theorem ET {t:List Nat} {most:Nat}:∀ (n p q:Nat) (out o:List UInt8),ev t most n p out= .inr (q,o)→p≤q:=by
 intro n
 induction n with
 | zero=>intro p q out o h;rw[ev] at h;have:=(Prod.mk.inj (Sum.inr.inj h)).1;omega
 | succ n ih=>
  intro p q out o h;rw[ev] at h
  split at h
  ·cases h
  ·split at h
   ·cases h
   ·have:=ih _ _ _ _ h;omega
theorem EU {t:List Nat} {most p q:Nat} {out o:List UInt8} (h:gU t most p out= .inr (q,o)):p≤q:=by
 rw[gU] at h
 split at h
 ·cases h
 ·split at h
  ·cases h
  ·have:=ET _ _ _ _ _ h;omega
theorem EV {t:List Nat} {A B:List (List Nat)} {most p q:Nat} {out o:List UInt8} {d:Bool} (h:fG t A B most p out= .inr (q,o,d)):p≤q:=by
 rw[fG] at h;generalize bG A [] (t.drop p)=r at h;obtain⟨k,r⟩:=r;cases r with
 | inr e=>cases h
 | inl v=>
  simp only at h
  by_cases h1:v=256
  ·rw[if_pos h1] at h;have:=(Prod.mk.inj (Sum.inr.inj h)).1;omega
  ·rw[if_neg h1] at h
   by_cases h2:v<256
   ·rw[if_pos h2] at h
    split at h
    ·cases h
    ·have:=(Prod.mk.inj (Sum.inr.inj h)).1;omega
   ·rw[if_neg h2] at h;cases e:dd t bf (v-257) (p+k) with
    | inl e'=>rw[e] at h;cases h
    | inr qn=>
     obtain⟨q1,n⟩:=qn;rw[e] at h;simp only at h;have h3:=oY e;cases e2:ip t B most n q1 out with
     | inl e'=>rw[e2] at h;cases h
     | inr qo=>
      obtain⟨q2,o2⟩:=qo;rw[e2] at h;simp only at h;have h4:=EQ e2;have:=(Prod.mk.inj (Sum.inr.inj h)).1;omega
theorem wS {t:List Nat} {A B:List (List Nat)} {most:Nat}:∀ (f p q:Nat) (out o:List UInt8),dH t A B most f p out= .inr (q,o)→p≤q:=by
 intro f
 induction f with
 | zero=>intro p q out o h;rw[dH] at h;cases h
 | succ f ih=>
  intro p q out o h;rw[dH] at h;cases e:fG t A B most p out with
  | inl e'=>rw[e] at h;cases h
  | inr x=>
   obtain⟨q1,o1,d⟩:=x;rw[e] at h;have h1:=EV e;cases d with
   | true=>simp only at h;have:=(Prod.mk.inj (Sum.inr.inj h)).1;omega
   | false=>simp only at h;have:=ih _ _ _ _ h;omega
theorem EW {t:List Nat} {la lb:List Nat} {how most p q:Nat} {out o:List UInt8} (h:fR t la lb how most p out= .inr (q,o)):p≤q:=by
 rw[fR] at h
 split at h
 ·cases h
 ·split at h
  ·cases h
  ·exact wS _ _ _ _ _ h
theorem EX {t:List Nat}:∀ (l:List Nat) (p q:Nat) (a b:List Nat),eO t l p a= .inr (q,b)→p≤q:=by
 intro l
 induction l with
 | nil=>intro p q a b h;rw[eO] at h;have:=(Prod.mk.inj (Sum.inr.inj h)).1;omega
 | cons i l ih=>
  intro p q a b h;rw[eO] at h
  split at h
  ·cases h
  ·have:=ih _ _ _ _ h;omega
theorem EY {t:List Nat} {W:List (List Nat)} {n:Nat}:∀ (f:Nat) (all:List Nat) (p q:Nat) (l:List Nat),cP t W n f all p= .inr (q,l)→p≤q:=by
 intro f
 induction f with
 | zero=>intro all p q l h;rw[cP] at h;cases h
 | succ f ih=>
  intro all p q l h;rw[cP] at h
  by_cases hln:all.length<n
  ·rw[if_pos hln] at h;generalize bG W [] (t.drop p)=r at h;obtain⟨k,r⟩:=r;cases r with
   | inr e=>cases h
   | inl v=>
    simp only at h
    by_cases h16:v<16
    ·rw[if_pos h16] at h;have:=ih _ _ _ _ h;omega
    ·rw[if_neg h16] at h
     by_cases hb:v=16∧all=[]
     ·rw[if_pos hb] at h;cases h
     ·rw[if_neg hb] at h;generalize (if v=16 then all.getD (all.length-1) 0 else 0)=val at*
      generalize (if v=16 then 2 else if v=18 then 7 else 3)=wide at*
      generalize (if v=18 then 11 else 3)=least at*
      by_cases hc:t.length<p+k+wide
      ·rw[if_pos hc] at h;cases h
      ·rw[if_neg hc] at h;have:=ih _ _ _ _ h;omega
  ·rw[if_neg hln] at h
   split at h
   ·cases h
   ·have:=(Prod.mk.inj (Sum.inr.inj h)).1;omega
theorem EZ {t:List Nat} {most p q:Nat} {out o:List UInt8} (h:gV t most p out= .inr (q,o)):p≤q:=by
 rw[gV] at h
 split at h
 ·cases h
 ·simp only at h
  split at h
  ·cases h
  ·split at h
   ·cases h
   ·rename_i e1;have h1:=EX _ _ _ _ _ e1
    split at h
    ·cases h
    ·split at h
     ·cases h
     ·rename_i e2;have h2:=EY _ _ _ _ _ e2
      split at h
      ·cases h
      ·have:=EW h;omega
def fH (bs:List UInt8) (most:Int):Nat ⊕ (List UInt8 × Nat):=
 if most<0 then .inl 1
 else match inflF (aF true bs) most.toNat (8*bs.length+1) 0 [] with
  | .inl e=> .inl e
  | .inr (q,o)=> .inr (o,(q+7)/8)
theorem E0:∀ n∈dr,n≤1000:=by decide
theorem E5:∀ n∈dG,n≤1000:=by decide
theorem ji:dr.length=288:=by simp [dr]
theorem jj:dG.length=30:=by simp [dG]
structure TokD where
 lit:UInt8
 len:Int
 dist:Int
 deriving Inhabited
def gh (L:List (Nat × Nat)) (n:Nat):Nat→Nat
 | 0=>0
 | i+1=>if(L.getD (i+1) (0,0)).1≤n then i+1 else gh L n i
def aR (far:Bool) (n:Nat):Nat:=gh (cond far aY bf) n ((cond far aY bf).length-1)
def aS (far:Bool) (n:Nat):Nat × Nat:=(cond far aY bf).getD (aR far n) (0,0)
def jk (far:Bool) (n:Nat):List Nat:=(ap (n-(aS far n).1) (aS far n).2).reverse
def cG (A B:List (List Nat)) (k:TokD):List Nat:=
 if k.len=0 then A.getD k.lit.toNat [] else A.getD (257+aR false k.len.toNat) []++(jk false k.len.toNat++(B.getD (aR true k.dist.toNat) []++jk true k.dist.toNat))
def b7 (A B:List (List Nat)) (l:List TokD):List Nat:=l.flatMap (cG A B)++A.getD 256 []
theorem mV (L:List (Nat × Nat)) (n:Nat):∀ i,gh L n i≤i:=by
 intro i
 induction i with
 | zero=>exact Nat.le_refl _
 | succ i ih=>
  rw[gh]
  split
  ·exact Nat.le_refl _
  ·omega
theorem wT (L:List (Nat × Nat)) (n:Nat) (h0:(L.getD 0 (0,0)).1≤n):∀ i,(L.getD (gh L n i) (0,0)).1≤n:=by
 intro i
 induction i with
 | zero=>exact h0
 | succ i ih=>
  rw[gh]
  split
  ·assumption
  ·exact ih
theorem wU (L:List (Nat × Nat)) (n:Nat):∀ i,gh L n i<i→n<(L.getD (gh L n i+1) (0,0)).1:=by
 intro i
 induction i with
 | zero=>intro h;exact absurd h (Nat.not_lt_zero _)
 | succ i ih=>
  intro h;rw[gh] at h ⊢
  split at h
  ·omega
  ·rename_i hn;rw[if_neg hn]
   by_cases he:gh L n i=i
   ·rw[he];omega
   ·exact ih (by have:=mV L n i;omega)
theorem E6:∀ i,i<28→(bf.getD (i+1) (0,0)).1≤(bf.getD i (0,0)).1+2^(bf.getD i (0,0)).2:=by decide
theorem E7:∀ i,i<29→(aY.getD (i+1) (0,0)).1≤(aY.getD i (0,0)).1+2^(aY.getD i (0,0)).2:=by decide
theorem ka {n:Nat} (h3:3≤n) (h258:n≤258):aR false n≤28∧(aS false n).1≤n∧n-(aS false n).1<2^(aS false n).2:=by
 have h1:aR false n≤28:=mV bf n 28;have h2:(aS false n).1≤n:=wT bf n h3 28;refine⟨h1,h2,?_⟩
 by_cases he:aR false n=28
 ·have e:aS false n=(258,0):=by rw[aS,he];rfl
  rw[e];simp;omega
 ·have h4:n<(bf.getD (aR false n+1) (0,0)).1:=wU bf n 28 (by have:gh bf n 28≠28:=he;have:=mV bf n 28;omega);have h5:=E6 (aR false n) (by omega);have e:aS false n=bf.getD (aR false n) (0,0):=rfl;rw[e] at h2 ⊢;omega
theorem kS {n:Nat} (h1:1≤n) (h9:n≤32768):aR true n≤29∧(aS true n).1≤n∧n-(aS true n).1<2^(aS true n).2:=by
 have h2:aR true n≤29:=mV aY n 29;have h3:(aS true n).1≤n:=wT aY n h1 29;refine⟨h2,h3,?_⟩
 by_cases he:aR true n=29
 ·have e:aS true n=(24577,13):=by rw[aS,he];rfl
  rw[e];simp;omega
 ·have h4:n<(aY.getD (aR true n+1) (0,0)).1:=wU aY n 29 (by have:gh aY n 29≠29:=he;have:=mV aY n 29;omega);have h5:=E7 (aR true n) (by omega);have e:aS true n=aY.getD (aR true n) (0,0):=rfl;rw[e] at h3 ⊢;omega
theorem lF {far:Bool} {n:Nat} (h:aR far n<(cond far aY bf).length):(cond far aY bf)[aR far n]? =some ((aS far n).1,(aS far n).2):=by
 rw[aS,List.getD_eq_getElem?_getD,ai h];rfl
theorem kb (far:Bool) (n:Nat):(jk far n).length=(aS far n).2:=by simp [jk]
theorem E9 {t u:List Nat} {p:Nat} (h:t.drop p=u) (i:Nat):t.getD (p+i) 0=u.getD i 0:=by
 rw[← h,List.getD_eq_getElem?_getD,List.getD_eq_getElem?_getD,lT]
theorem ce {t u:List Nat} {p:Nat} (h:t.drop p=u) (hu:u≠[]∨p≤t.length):t.length=p+u.length:=by
 have:=congrArg List.length h;rw[bH] at this
 rcases hu with hu | hu
 ·have:u.length≠0:=fun h0=>hu (bC h0)
  omega
 ·omega
theorem fS {t r:List Nat} {p v n:Nat} (h:t.drop p=(ap v n).reverse++r) (hv:v<2^n):vl t p n=v:=by
 refine qF true v n hv _ fun i hi=> ?_
 rw[E9 h,List.getD_eq_getElem?_getD,cR (by simp;exact hi)];rw[List.getD_eq_getElem?_getD];rfl
theorem rZ {t r:List Nat} {p i f e v:Nat} {L:List (Nat × Nat)} (hi:L[i]? =some (f,e)) (hp:p≤t.length) (h:t.drop p=(ap v e).reverse++r) (hv:v<2^e):dd t L i p= .inr (p+e,f+v):=by
 have hl:=ce h (.inr hp);rw[dd,hi];simp only;rw[if_neg (by rw[hl];simp),fS h hv]
theorem wV {t r:List Nat} {p i f e:Nat} {L:List (Nat × Nat)} (hi:L[i]? =some (f,e)) (hp:p≤t.length) (h:t.drop p=r) (hr:r.length<e):dd t L i p= .inl 2:=by
 have hl:=ce h (.inr hp);rw[dd,hi];simp only;rw[if_pos (by omega)]
theorem mW {W:List (List Nat)} (pf:PF W) {i:Nat} {w:List Nat} (hi:W[i]? =some w):
  ∀ (r s q:List Nat),s++(r++q)=w→q≠[]→bG W s r=(s.length+r.length,.inr 2):=by
 intro r
 induction r with
 | nil=>intro s q _ _;rw[bG];rfl
 | cons c r ih=>
  intro s q hs hq;have hs':(s++[c])++(r++q)=w:=by rw[← hs];simp
  have hno:∀ j:Nat,W[j]? ≠some (s++[c]):=fun j hj=>by
   have hpre:(s++[c]) <+:w:=⟨r++q,hs'⟩
   by_cases hji:j=i
   ·subst hji;rw[hi] at hj;have e:w=s++[c]:=gm hj;rw[← hs'] at e;have:=congrArg List.length e;have hq2:q.length≠0:=fun h0=>hq (bC h0)
    simp at this;exact hq this.2
   ·exact pf j i _ _ hji hj hi oq hpre
  have e2:W.any (fun w=>(s++[c]).isPrefixOf w)=true:=zh.2 ⟨w,aG hi,nB.2 ⟨r++q,hs'⟩⟩;rw[bG,uI hno,e2];simp only[if_true];rw[ih (s++[c]) q hs' hq];simp;omega
structure GoodW (A B:List (List Nat)):Prop where
 pa:PF A
 pb:PF B
 la:∀ i,i<288→∃ w,A[i]? =some w∧w≠[]
 lb:∀ i,i<30→∃ w,B[i]? =some w∧w≠[]
theorem getD_some {W:List (List Nat)} {i:Nat} {w:List Nat} (h:W[i]? =some w):W.getD i []=w:=by
 rw[List.getD_eq_getElem?_getD,h];rfl
theorem kd {W:List (List Nat)} (pf:PF W) {i:Nat} {w r:List Nat} (hi:W[i]? =some w) (hw:w≠[]):bG W [] (w++r)=(w.length,.inl i):=Cm pf hi w [] r rfl hw
theorem cy {t a b:List Nat} {p:Nat} (h:t.drop p=a++b):t.drop (p+a.length)=b:=by
 rw[← qi,h,zt]
def okT (k:TokD) (out:List UInt8):Prop:=k.len=0∨(3≤k.len∧k.len≤258∧1≤k.dist∧k.dist≤out.length∧k.dist≤32768)
def putT (k:TokD) (out:List UInt8):List UInt8:=if k.len=0 then out++[k.lit] else dP k.dist.toNat k.len.toNat out
theorem wW (c:UInt8):UInt8.ofNat c.toNat=c:=UInt8.ofNat_toNat
theorem eT {a b u:List Nat} (h:u <+:a++b):(∃ q,q≠[]∧u++q=a)∨∃ v,u=a++v∧v <+:b:=by
 obtain⟨z,hz⟩:=h
 rcases List.append_eq_append_iff.1 hz with ⟨c,hc,hd⟩ | ⟨c,hc,hd⟩
 ·by_cases h0:c=[]
  ·subst h0;rw[bE] at hc;exact .inr ⟨[],by rw[bE];exact hc.symm,List.nil_prefix⟩
  ·exact .inl ⟨c,h0,hc.symm⟩
 ·exact .inr ⟨c,hc,⟨z,hd.symm⟩⟩
theorem mX (A B:List (List Nat)) (k:TokD) (l:List TokD):b7 A B (k::l)=cG A B k++b7 A B l:=by
 rw[b7,b7,eZ,List.append_assoc]
def FA:List (List Nat):=aB dr
def FB:List (List Nat):=aB dG
theorem oZ:OkC dr:=by decide +kernel
theorem o3:OkC dG:=by decide +kernel
theorem Fa:cW (dr.map fun(n:Nat)=>(n:Int))=dr:=by decide +kernel
theorem Fb:cW (dG.map fun(n:Nat)=>(n:Int))=dG:=by decide +kernel
theorem Fc:fullC dr=true:=by decide +kernel
theorem o9:∀ n∈dr,n≤30:=by decide +kernel
theorem pe:∀ n∈dG,n≤30:=by decide +kernel
theorem Fd:∀ n∈dr,0<n:=by decide +kernel
theorem Fe:∀ n∈dG,0<n:=by decide +kernel
theorem Ff:bL (dr.map fun(n:Nat)=>(n:Int))=(FA,true,0):=by
 rw[bL,Fa,if_neg,if_pos oZ,Fc];rfl;rintro⟨x,hx,h⟩;obtain⟨n,hn,rfl⟩:=bW.1 hx;have:=o9 n hn;omega
theorem Fg:∃ b,bL (dG.map fun(n:Nat)=>(n:Int))=(FB,b,0):=by
 rw[bL,Fb,if_neg,if_pos o3];exact⟨_,rfl⟩;rintro⟨x,hx,h⟩;obtain⟨n,hn,rfl⟩:=bW.1 hx;have:=pe n hn;omega
theorem wX (how:Nat):bM dr how= .inr FA:=by
 rw[bM,Ff,if_neg (by simp),if_neg (by simp)]
theorem wY:bM dG 2= .inr FB:=by
 obtain⟨b,hb⟩:=Fg;rw[bM,hb,if_neg (by simp),if_neg (by simp)]
theorem ir:GoodW FA FB:=by
 refine⟨lC oZ o9,lC o3 pe,fun i hi=> ?_,fun i hi=> ?_⟩
 ·have hl:i<dr.length:=by rw[ji];exact hi
  refine⟨_,rB hl,fun h0=> ?_⟩;have:=congrArg List.length h0;rw[jd,List.getD_eq_getElem?_getD,ai hl] at this;have h2:=Fd _ (bo hl);simp at this;omega
 ·have hl:i<dG.length:=by rw[jj];exact hi
  refine⟨_,rB hl,fun h0=> ?_⟩;have:=congrArg List.length h0;rw[jd,List.getD_eq_getElem?_getD,ai hl] at this;have h2:=Fe _ (bo hl);simp at this;omega
theorem wZ:∀ v∈FA,Bit v:=je dr
theorem Fh:∀ v∈FB,Bit v:=je dG
theorem r7 (c:UInt8) (r:List UInt8):aF true (c::r)=(ap c.toNat 8).reverse++aF true r:=by simp [aF,gK]
theorem Fi {t r:List Nat} {p:Nat} (c:UInt8) (h:t.drop p=(ap c.toNat 8).reverse++r):vl t p 8=c.toNat:=fS h (bh c)
theorem Fj {t r:List Nat} {most:Nat}:∀ (x:List UInt8) (p:Nat) (out:List UInt8),p≤t.length→t.drop p=aF true x++r→out.length≤most→
  ev t most x.length p out=if most<out.length+x.length then .inl 8 else .inr (p+8*x.length,out++x):=by
 intro x
 induction x with
 | nil=>intro p out hp h ho;rw[bD,ev,if_neg (by omega)];simp
 | cons c x ih=>
  intro p out hp h ho;rw[r7,List.append_assoc] at h;have hl:=ce h (.inr hp);rw[ae,show(ap c.toNat 8).reverse.length=8 by simp] at hl;rw[aK,ev,if_neg (by omega)]
  by_cases hm:most≤out.length
  ·rw[if_pos hm,if_pos (by omega)]
  ·rw[if_neg hm,Fi c h,wW];have h2:=cy h;rw[show(ap c.toNat 8).reverse.length=8 by simp] at h2;rw[ih (p+8) (out++[c]) (by omega) h2 (by simp;omega),ae,gY,List.append_assoc,show p+8+8*x.length=p+8*(x.length+1) by omega,show out.length+1+x.length=out.length+(x.length+1) by omega];rfl
theorem Fk {k:TokD}:Bit (cG FA FB k):=by
 have hA:∀ i,Bit (FA.getD i []):=fun i=>by
  rw[List.getD_eq_getElem?_getD];cases e:FA[i]? with
  | none=>intro b hb;simp at hb
  | some w=>exact wZ w (aG e)
 have hB:∀ i,Bit (FB.getD i []):=fun i=>by
  rw[List.getD_eq_getElem?_getD];cases e:FB[i]? with
  | none=>intro b hb;simp at hb
  | some w=>exact Fh w (aG e)
 unfold cG
 split
 ·exact hA _
 ·exact(hA _).append ((da _ _).reverse.append ((hB _).append (da _ _).reverse))
theorem Fl (l:List TokD):Bit (b7 FA FB l):=by
 induction l with
 | nil=>
  rw[b7];obtain⟨w,hw,_⟩:=ir.la 256 (by omega);rw[getD_some hw];exact wZ w (aG hw)
 | cons k l ih=>rw[mX];exact Fk.append ih
theorem Fm (bs:List UInt8) (m:Nat):aF true (bs.take m)=(aF true bs).take (8*m):=by
 conv=>rhs;rw[← eQ m bs,lk]
 by_cases h:m≤bs.length
 ·rw[lf (by rw[eg,aJ,lP h])]
 ·rw[qe (by omega),bU (l:=bs) (by omega)];rw[show aF true []=[] from rfl,bE,bU (by rw[eg];omega)]
theorem Fn (b:List UInt8):∀ (n i d:Nat),1≤d→d≤i→i+n≤b.length→(∀ t,t<n→b[i+t]? =b[i+t-d]?)→dP d n (b.take i)=b.take (i+n):=by
 intro n
 induction n with
 | zero=>intro i d _ _ _ _;rfl
 | succ n ih=>
  intro i d h1 h2 h3 h;have hl:(b.take i).length=i:=by rw[aJ];omega
  have hi:i<b.length:=by omega
  have h0:=h 0 (by omega);rw[fL,ai hi] at h0;have e:(b.take i).getD (i-d) 0=b[i]:=by
   rw[List.getD_eq_getElem?_getD,jn,if_pos (by omega),← h0];rfl
  rw[dP,hl,e,← List.take_succ_eq_append_getElem hi,ih (i+1) d h1 (by omega) (by omega) (fun t ht=>by
   have:=h (t+1) (by omega);rw[show i+1+t=i+(t+1) by omega];exact this)]
  congr 1;omega
def dV (A B:List (List Nat)) (k:TokD):Prop:=
 if k.len=0 then ∃ w,A[k.lit.toNat]? =some w∧w≠[] else(∃ w,A[257+aR false k.len.toNat]? =some w∧w≠[])∧∃ w,B[aR true k.dist.toNat]? =some w∧w≠[]
structure GoodU (A B:List (List Nat)):Prop where
 pa:PF A
 pb:PF B
 eob:∃ w,A[256]? =some w∧w≠[]
theorem xc {t r:List Nat} {A B:List (List Nat)} (G:GoodU A B) {k:TokD} (hus:dV A B k) {out:List UInt8} (hk:okT k out) {p most:Nat} (hp:p≤t.length) (h:t.drop p=cG A B k++r):
  fG t A B most p out=if most<(putT k out).length then .inl 8 else .inr (p+(cG A B k).length,putT k out,false):=by
 unfold cG at h ⊢;unfold putT;rw[fG];unfold dV at hus
 by_cases h0:k.len=0
 ·rw[if_pos h0] at h ⊢;rw[if_pos h0];have hlt:=bh k.lit;have hlt:k.lit.toNat<256:=hlt;rw[if_pos h0] at hus;obtain⟨w,hw,hne⟩:=hus;rw[getD_some hw] at h ⊢;rw[h,kd G.pa hw hne];simp only;rw[if_neg (by omega),if_pos hlt,wW]
  by_cases hm:most≤out.length
  ·rw[if_pos hm,if_pos (by simp;omega)]
  ·rw[if_neg hm,if_neg (by simp;omega)]
 ·obtain⟨h1,h2,h3,h4,h5⟩:=hk.resolve_left h0;rw[if_neg h0] at h ⊢;rw[if_neg h0];obtain⟨n,hn⟩:∃ n:Nat,k.len=n:=⟨k.len.toNat,by omega⟩;obtain⟨d,hd⟩:∃ d:Nat,k.dist=d:=⟨k.dist.toNat,by omega⟩;rw[hn] at h h1 h2 ⊢;rw[hd] at h h3 h4 h5 ⊢;simp only[gq] at h ⊢;obtain⟨p1,p2,p3⟩:=ka (n:=n) (by omega) (by omega);obtain⟨q1,q2,q3⟩:=kS (n:=d) (by omega) (by omega);rw[if_neg h0,hn,hd] at hus;simp only[gq] at hus;obtain⟨⟨w,hw,hne⟩,u,hu,hne'⟩:=hus;rw[getD_some hw,getD_some hu] at h ⊢;rw[List.append_assoc,List.append_assoc,List.append_assoc] at h;rw[h,kd G.pa hw hne];simp only;rw[if_neg (by omega),if_neg (by omega),show 257+aR false n-257=aR false n by omega];have e1:=cy h;have l1:p+w.length≤t.length:=by have:=ce h (.inr hp);rw[ae] at this;omega
  have g1:bf[aR false n]? =some ((aS false n).1,(aS false n).2):=lF (far:=false) (by show _<29;omega);rw[rZ g1 l1 e1 p3];simp only;have e2:=cy e1;rw[kb] at e2;have l2:p+w.length+(aS false n).2≤t.length:=by have:=ce e1 (.inr l1);rw[ae,kb] at this;omega
  have e3:=cy e2;have l3:p+w.length+(aS false n).2+u.length≤t.length:=by have:=ce e2 (.inr l2);rw[ae] at this;omega
  have g2:aY[aR true d]? =some ((aS true d).1,(aS true d).2):=lF (far:=true) (by show _<30;omega);rw[ip,e2,kd G.pb hu hne'];simp only;rw[rZ g2 l3 e3 q3];simp only;rw[show(aS true d).1+(d-(aS true d).1)=d by omega,show(aS false n).1+(n-(aS false n).1)=n by omega,if_neg (by omega),oV]
  by_cases hm:most<out.length+n
  ·rw[if_pos hm,if_pos hm]
  ·rw[if_neg hm,if_neg hm];simp only[ae,kb]
   congr 2
   omega
theorem Fo {t u:List Nat} {A B:List (List Nat)} (G:GoodU A B) {k:TokD} (hus:dV A B k) {out:List UInt8} (hk:okT k out) {p most:Nat} (hp:p≤t.length) (h:t.drop p=u) (hu:∃ q,q≠[]∧u++q=cG A B k):
  fG t A B most p out= .inl 2:=by
 obtain⟨q,hq,hu⟩:=hu;unfold cG at hu;rw[fG,h];unfold dV at hus
 by_cases h0:k.len=0
 ·rw[if_pos h0] at hu;have hlt:k.lit.toNat<256:=bh k.lit;rw[if_pos h0] at hus;obtain⟨w,hw,hne⟩:=hus;rw[getD_some hw] at hu;rw[mW G.pa hw u [] q (by rw[ba];exact hu) hq]
 ·obtain⟨h1,h2,h3,h4,h5⟩:=hk.resolve_left h0;rw[if_neg h0] at hu;obtain⟨n,hn⟩:∃ n:Nat,k.len=n:=⟨k.len.toNat,by omega⟩;obtain⟨d,hd⟩:∃ d:Nat,k.dist=d:=⟨k.dist.toNat,by omega⟩;rw[hn] at hu h1 h2;rw[hd] at hu h3 h4 h5;simp only[gq] at hu;obtain⟨p1,p2,p3⟩:=ka (n:=n) (by omega) (by omega);obtain⟨q1,q2,q3⟩:=kS (n:=d) (by omega) (by omega);rw[if_neg h0,hn,hd] at hus;simp only[gq] at hus;obtain⟨⟨w,hw,hne⟩,v,hv,hne'⟩:=hus;rw[getD_some hw,getD_some hv] at hu;have g1:bf[aR false n]? =some ((aS false n).1,(aS false n).2):=lF (far:=false) (by show _<29;omega);have g2:aY[aR true d]? =some ((aS true d).1,(aS true d).2):=lF (far:=true) (by show _<30;omega)
  rcases eT ⟨q,hu⟩ with ⟨q',hq',hu'⟩ | ⟨u1,rfl,hu1⟩
  ·rw[mW G.pa hw u [] q' (by rw[ba];exact hu') hq']
  rw[kd G.pa hw hne];simp only;rw[if_neg (by omega),if_neg (by omega),show 257+aR false n-257=aR false n by omega];have e1:=cy h;have l1:p+w.length≤t.length:=by have:=ce h (.inr hp);rw[ae] at this;omega
  rw[List.append_assoc] at hu;have hu:=ef hu
  rcases eT ⟨q,hu⟩ with ⟨q',hq',hu'⟩ | ⟨u2,rfl,hu2⟩
  ·have hl:=congrArg List.length hu';have hq2:q'.length≠0:=fun h0=>hq' (bC h0)
   rw[ae,kb] at hl;rw[wV g1 l1 e1 (by omega)]
  rw[rZ g1 l1 e1 p3];simp only;rw[List.append_assoc] at hu;have hu:=ef hu;have e2:=cy e1;rw[kb] at e2;have l2:p+w.length+(aS false n).2≤t.length:=by have:=ce e1 (.inr l1);rw[ae,kb] at this;omega
  rw[ip,e2]
  rcases eT ⟨q,hu⟩ with ⟨q',hq',hu'⟩ | ⟨u3,rfl,hu3⟩
  ·rw[mW G.pb hv u2 [] q' (by rw[ba];exact hu') hq']
  rw[kd G.pb hv hne'];simp only;rw[List.append_assoc] at hu;have hu:=ef hu;have e3:=cy e2;have l3:p+w.length+(aS false n).2+v.length≤t.length:=by have:=ce e2 (.inr l2);rw[ae] at this;omega
  have hl:=congrArg List.length hu;have hq2:q.length≠0:=fun h0=>hq (bC h0)
  rw[ae,kb] at hl;rw[wV g2 l3 e3 (by omega)]
theorem xd {A B:List (List Nat)} (G:GoodU A B) {k:TokD} (hus:dV A B k) {out:List UInt8} (hk:okT k out):1≤(cG A B k).length:=by
 unfold cG;have pos:∀ w:List Nat,w≠[]→1≤w.length:=fun w hw=>by
  have:w.length≠0:=fun h0=>hw (bC h0)
  omega
 unfold dV at hus
 by_cases h0:k.len=0
 ·rw[if_pos h0];have hlt:k.lit.toNat<256:=bh k.lit;rw[if_pos h0] at hus;obtain⟨w,hw,hne⟩:=hus;rw[getD_some hw];exact pos w hne
 ·obtain⟨h1,h2,h3,h4,h5⟩:=hk.resolve_left h0;rw[if_neg h0];obtain⟨p1,p2,p3⟩:=ka (n:=k.len.toNat) (by omega) (by omega);rw[if_neg h0] at hus;obtain⟨⟨w,hw,hne⟩,_⟩:=hus;rw[getD_some hw,ae];have:=pos w hne;omega
structure StepT (b:List UInt8) (i:Nat) (k:TokD) (j:Nat):Prop where
 lt:i<j
 le:j≤b.length
 ok:okT k (b.take i)
 put:putT k (b.take i)=b.take j
def TellsTo (b:List UInt8):Nat→List TokD→Nat→Prop
 | i,[],j=>i=j
 | i,k::r,j=>∃ m,StepT b i k m∧TellsTo b m r j
theorem TellsTo.le {b:List UInt8}:∀ {l:List TokD} {i j:Nat},TellsTo b i l j→i≤b.length→i≤j∧j≤b.length∧l.length≤j-i:=by
 intro l
 induction l with
 | nil=>intro i j h hi;cases h;simp;exact hi
 | cons k r ih=>
  rintro i j ⟨m,h1,h2⟩ hi;obtain⟨g1,g2,g3⟩:=ih h2 h1.le;have:=h1.lt;rw[aK];omega
theorem TellsTo.app {b:List UInt8}:∀ {l r:List TokD} {i j m:Nat},TellsTo b i l j→TellsTo b j r m→TellsTo b i (l++r) m:=by
 intro l
 induction l with
 | nil=>intro r i j m h h';cases h;exact h'
 | cons k l ih=>rintro r i j m ⟨x,h1,h2⟩ h';exact⟨x,h1,ih h2 h'⟩
theorem TellsTo.split {b:List UInt8}:∀ (n:Nat) {l:List TokD} {i m:Nat},TellsTo b i l m→∃ j,TellsTo b i (l.take n) j∧TellsTo b j (l.drop n) m:=by
 intro n
 induction n with
 | zero=>intro l i m h;exact⟨i,rfl,h⟩
 | succ n ih=>
  intro l i m h;cases l with
  | nil=>cases h;exact⟨i,rfl,rfl⟩
  | cons k l=>
   obtain⟨x,h1,h2⟩:=h;obtain⟨j,h3,h4⟩:=ih h2;exact⟨j,⟨x,h1,h3⟩,h4⟩
theorem lG {b:List UInt8} {j:Nat} (h:j≤b.length):(b.take j).length=j:=by rw[aJ];omega
theorem xe {t r:List Nat} {A B:List (List Nat)} (G:GoodU A B) {most:Nat} {b:List UInt8}:∀ (l:List TokD) (f p i j:Nat),TellsTo b i l j→(∀ k∈l,dV A B k)→i≤b.length→p≤t.length→t.drop p=b7 A B l++r→l.length<f→i≤most→
  dH t A B most f p (b.take i)=if most<j then .inl 8 else .inr (p+(b7 A B l).length,b.take j):=by
 intro l
 induction l with
 | nil=>
  intro f p i j h _ hi hp ht hf hom;obtain⟨f,rfl⟩:∃ g,f=g+1:=⟨f-1,by simp at hf;omega⟩;cases h;obtain⟨w,hw,hne⟩:=G.eob;have e:b7 A B []=w:=by rw[b7,getD_some hw];rfl
  rw[e] at ht ⊢;rw[dH,fG,ht,kd G.pa hw hne];simp only;rw[if_pos trivial,if_neg (by omega)]
 | cons k l ih=>
  intro f p i j h hu hi hp ht hf hom;obtain⟨f,rfl⟩:∃ g,f=g+1:=⟨f-1,by simp at hf;omega⟩;obtain⟨m,h1,h2⟩:=h;obtain⟨g1,g2,_⟩:=h2.le h1.le;rw[mX,List.append_assoc] at ht;rw[dH,xc G (hu k (by simp)) h1.ok hp ht,h1.put,lG h1.le]
  by_cases hm:most<m
  ·rw[if_pos hm,if_pos (by omega)]
  ·rw[if_neg hm];simp only;have l1:p+(cG A B k).length≤t.length:=by have:=ce ht (.inr hp);rw[ae] at this;omega
   rw[ih f (p+(cG A B k).length) m j h2 (fun k hk=>hu k (by simp [hk])) h1.le l1 (cy ht) (by simp at hf;omega) (by omega),mX,show(cG A B k++b7 A B l).length=(cG A B k).length+(b7 A B l).length from ae,ec]
theorem xf {t:List Nat} {A B:List (List Nat)} (G:GoodU A B) {most:Nat} {b:List UInt8}:∀ (l:List TokD) (f p i j:Nat) (u:List Nat),TellsTo b i l j→(∀ k∈l,dV A B k)→i≤b.length→j≤most→p≤t.length→t.drop p=u→(∃ q,q≠[]∧u++q=b7 A B l)→u.length<f→
  dH t A B most f p (b.take i)= .inl 2:=by
 intro l
 induction l with
 | nil=>
  intro f p i j u h _ _ _ hp ht hu hf;obtain⟨f,rfl⟩:∃ g,f=g+1:=⟨f-1,by omega⟩;obtain⟨q,hq,hu⟩:=hu;obtain⟨w,hw,hne⟩:=G.eob;have e:b7 A B []=w:=by rw[b7,getD_some hw];rfl
  rw[e] at hu;rw[dH,fG,ht,mW G.pa hw u [] q (by rw[ba];exact hu) hq]
 | cons k l ih=>
  intro f p i j u h hus hi hj hp ht hu hf;obtain⟨f,rfl⟩:∃ g,f=g+1:=⟨f-1,by omega⟩;obtain⟨m,h1,h2⟩:=h;obtain⟨g1,g2,_⟩:=h2.le h1.le;obtain⟨q,hq,hu⟩:=hu;rw[mX] at hu
  rcases eT ⟨q,hu⟩ with ⟨q',hq',hu'⟩ | ⟨u1,rfl,hu1⟩
  ·rw[dH,Fo G (hus k (by simp)) h1.ok hp ht ⟨q',hq',hu'⟩]
  ·have htp:=xd G (hus k (by simp)) h1.ok;rw[dH,xc G (hus k (by simp)) h1.ok hp ht,h1.put,lG h1.le,if_neg (by omega)];simp only;have l1:p+(cG A B k).length≤t.length:=by have:=ce ht (.inr hp);rw[ae] at this;omega
   rw[List.append_assoc] at hu;rw[ae] at hf;exact ih f _ m j u1 h2 (fun k hk=>hus k (by simp [hk])) h1.le hj l1 (cy ht) ⟨q,hq,ef hu⟩ (by omega)
theorem xg {A B:List (List Nat)} (G:GoodU A B) {b:List UInt8}:∀ (l:List TokD) (i j:Nat),TellsTo b i l j→(∀ k∈l,dV A B k)→l.length<(b7 A B l).length:=by
 intro l
 induction l with
 | nil=>
  intro i j h _;obtain⟨w,hw,hne⟩:=G.eob;have e:b7 A B []=w:=by rw[b7,getD_some hw];rfl
  rw[e];have:w.length≠0:=fun h0=>hne (bC h0)
  simp;omega
 | cons k l ih=>
  rintro i j ⟨m,h1,h2⟩ hu;have:=ih _ _ h2 fun k hk=>hu k (by simp [hk])
  have:=xd G (hu k (by simp)) h1.ok;rw[mX,ae,aK];omega
structure PreS (b:List UInt8) (x:List Nat) (j n:Nat):Prop where
 bit:Bit x
 le:n≤x.length
 jle:j≤b.length
 all:∀ (r:List Nat) (most f:Nat),inflF (x++r) most (n+f) 0 []=if most<j then .inl 8 else inflF (x++r) most f x.length (b.take j)
 cut:∀ (u:List Nat) (most f:Nat),(∃ q,q≠[]∧u++q=x)→j≤most→u.length<f→inflF u most f 0 []= .inl 2
structure BlkS (b:List UInt8) (p i j:Nat) (last:Bool) (x:List Nat):Prop where
 bit:Bit x
 pos:1≤x.length
 lo:i≤j
 jle:j≤b.length
 all:∀ (t r:List Nat) (most f:Nat),p≤t.length→t.drop p=x++r→i≤most→
  inflF t most (f+1) p (b.take i)=if most<j then .inl 8 else if last then .inr (p+x.length,b.take j) else inflF t most f (p+x.length) (b.take j)
 cut:∀ (t u:List Nat) (most f:Nat),p≤t.length→t.drop p=u→(∃ q,q≠[]∧u++q=x)→j≤most→inflF t most (f+1) p (b.take i)= .inl 2
structure DoneS (b:List UInt8) (x:List Nat) (n:Nat):Prop where
 bit:Bit x
 le:n≤x.length
 all:∀ (r:List Nat) (most f:Nat),n≤f→inflF (x++r) most f 0 []=if most<b.length then .inl 8 else .inr (x.length,b)
 cut:∀ (u:List Nat) (most f:Nat),(∃ q,q≠[]∧u++q=x)→b.length≤most→u.length<f→inflF u most f 0 []= .inl 2
theorem PreS.nil (b:List UInt8):PreS b [] 0 0:=
 ⟨fun _ h=>by simp at h,by simp,by simp,fun r most f=>by simp,fun u most f ⟨q,hq,hu⟩ _ _=>by
  have:=tc.1 hu;exact absurd this.2 hq⟩
theorem PreS.more {b:List UInt8} {x y:List Nat} {i j n:Nat} (h:PreS b x i n) (k:BlkS b x.length i j false y):PreS b (x++y) j (n+1):=by
 have h1:=h.le;have h2:=k.pos;have h3:=k.lo;refine⟨h.bit.append k.bit,by rw[ae];omega,k.jle,fun r most f=> ?_,fun u most f hu hj hf=> ?_⟩
 ·rw[List.append_assoc,show n+1+f=n+(f+1) by omega,h.all]
  by_cases hm:most<i
  ·rw[if_pos hm,if_pos (by omega)]
  ·rw[if_neg hm,k.all (x++(y++r)) r most f (by simp) (by simp) (by omega)];simp only[ae,zu,if_false]
 ·obtain⟨q,hq,hu⟩:=hu
  rcases eT ⟨q,hu⟩ with ⟨q',hq',hu'⟩ | ⟨v,rfl,hv⟩
  ·exact h.cut u most f ⟨q',hq',hu'⟩ (by omega) (by omega)
  ·rw[ae] at hf;obtain⟨f,rfl⟩:∃ g,f=n+(g+1):=⟨f-n-1,by omega⟩;rw[List.append_assoc] at hu;rw[h.all,if_neg (by omega)];exact k.cut _ v most f (by simp) (by simp) ⟨q,hq,ef hu⟩ hj
theorem PreS.last {b:List UInt8} {x y:List Nat} {i j n:Nat} (h:PreS b x i n) (k:BlkS b x.length i j true y) (hj:j=b.length):DoneS b (x++y) (n+1):=by
 subst hj;have h1:=h.le;have h2:=k.pos;have h3:=k.lo;refine⟨h.bit.append k.bit,by rw[ae];omega,fun r most f hf=> ?_,fun u most f hu hj hf=> ?_⟩
 ·obtain⟨f,rfl⟩:∃ g,f=n+(g+1):=⟨f-n-1,by omega⟩;rw[List.append_assoc,h.all]
  by_cases hm:most<i
  ·rw[if_pos hm,if_pos (by omega)]
  ·rw[if_neg hm,k.all (x++(y++r)) r most f (by simp) (by simp) (by omega)];simp only[ae,if_true,cI]
 ·obtain⟨q,hq,hu⟩:=hu
  rcases eT ⟨q,hu⟩ with ⟨q',hq',hu'⟩ | ⟨v,rfl,hv⟩
  ·exact h.cut u most f ⟨q',hq',hu'⟩ (by omega) (by omega)
  ·rw[ae] at hf;obtain⟨f,rfl⟩:∃ g,f=n+(g+1):=⟨f-n-1,by omega⟩;rw[List.append_assoc] at hu;rw[h.all,if_neg (by omega)];exact k.cut _ v most f (by simp) (by simp) ⟨q,hq,ef hu⟩ hj
theorem pg (low:Bool) (l:List Nat):(aq low l).length=(l.length+7)/8:=by simp [aq]
theorem DoneS.infl {b:List UInt8} {x:List Nat} {n:Nat} (h:DoneS b x n) (ex:List UInt8) (most:Int):
  fH (aq true x++ex) most=if most<0 then .inl 1 else if most.toNat<b.length then .inl 8 else .inr (b,(aq true x).length):=by
 obtain⟨z,hz⟩:=vM true h.bit;have hn:=h.le;unfold fH
 by_cases h0:most<0
 ·rw[if_pos h0,if_pos h0]
 ·rw[if_neg h0,if_neg h0,lk,hz,List.append_assoc,h.all _ _ _ (by rw[ae,pg];omega)]
  by_cases hm:most.toNat<b.length
  ·rw[if_pos hm,if_pos hm]
  ·rw[if_neg hm,if_neg hm,pg]
theorem DoneS.short {b:List UInt8} {x:List Nat} {n:Nat} (h:DoneS b x n) {m:Nat} (hm:m<(aq true x).length) (most:Int) (hb:(b.length:Int)≤most):
  fH ((aq true x).take m) most= .inl 2:=by
 obtain⟨z,hz⟩:=vM true h.bit;have hn:=h.le;rw[pg] at hm;have hlen:8*m<x.length:=by omega
 have e:aF true ((aq true x).take m)=x.take (8*m):=by
  rw[Fm,hz,JM (by omega)]
 unfold fH;rw[if_neg (by omega),e];have hne:x.drop (8*m)≠[]:=fun h0=>by
  have:=congrArg List.length h0;rw[bH,bD] at this;omega
 have hf:(x.take (8*m)).length<8*((aq true x).take m).length+1:=by
  rw[aJ,aJ,pg];omega
 rw[h.cut (x.take (8*m)) most.toNat _ ⟨x.drop (8*m),hne,eQ _ _⟩ (by omega) hf]
def headL (last:Bool) (kind:Nat):List Nat:=(ap (2*kind+last.toNat) 3).reverse
theorem gi (last:Bool) (kind:Nat):(headL last kind).length=3:=by simp [headL]
theorem r8 {b:List UInt8} {p i j kind:Nat} {last:Bool} {x:List Nat} (hk:kind<4) (hb:Bit x) (lo:i≤j) (hj:j≤b.length)
  (all:∀ (t r:List Nat) (most:Nat),p+3≤t.length→t.drop (p+3)=x++r→i≤most→eS t most kind (p+3) (b.take i)=if most<j then .inl 8 else .inr (p+3+x.length,b.take j))
  (cut:∀ (t u:List Nat) (most:Nat),p+3≤t.length→t.drop (p+3)=u→(∃ q,q≠[]∧u++q=x)→j≤most→eS t most kind (p+3) (b.take i)= .inl 2):BlkS b p i j last (headL last kind++x):=by
 have hl3:=gi last kind;have hlast:last.toNat≤1:=by cases last <;> simp
 have hv:2*kind+last.toNat<2^3:=by omega
 refine⟨(da _ _).reverse.append hb,by rw[ae,hl3];omega,lo,hj,fun t r most f hp h hi=> ?_,fun t u most f hp h hu hm=> ?_⟩
 ·rw[List.append_assoc] at h;have hlen:=ce h (.inr hp);rw[ae,hl3] at hlen;have hvl:vl t p 3=2*kind+last.toNat:=fS h hv;have h2:=cy h;rw[hl3] at h2;rw[inflF,if_neg (by omega),hvl,show(2*kind+last.toNat)/2=kind by omega,all t r most (by omega) h2 hi]
  by_cases hm:most<j
  ·rw[if_pos hm,if_pos hm]
  ·rw[if_neg hm,if_neg hm,ae,hl3];simp only;cases last with
   | true=>simp [show(2*kind+1)%2=1 by omega];omega
   | false=>simp [ec]
 ·obtain⟨q,hq,hu⟩:=hu;rw[inflF]
  rcases eT ⟨q,hu⟩ with ⟨q',hq',hu'⟩ | ⟨v,rfl,hv'⟩
  ·have hl:=congrArg List.length hu';rw[ae,hl3] at hl;have hq2:q'.length≠0:=fun h0=>hq' (bC h0)
   have:=ce h (.inr hp);rw[if_pos (by omega)]
  ·have hlen:=ce h (.inr hp);rw[ae,hl3] at hlen;have hvl:vl t p 3=2*kind+last.toNat:=fS h hv;have h2:=cy h;rw[hl3] at h2;rw[List.append_assoc] at hu;rw[if_neg (by omega),hvl,show(2*kind+last.toNat)/2=kind by omega,cut t v most (by omega) h2 ⟨q,hq,ef hu⟩ hm]
theorem r9:GoodU FA FB:=⟨ir.pa,ir.pb,ir.la 256 (by omega)⟩
theorem Fp {k:TokD} {out:List UInt8} (h:okT k out):dV FA FB k:=by
 unfold dV
 by_cases h0:k.len=0
 ·rw[if_pos h0];exact ir.la _ (by have:=bh k.lit;omega)
 ·rw[if_neg h0];obtain⟨h1,h2,h3,h4,h5⟩:=h.resolve_left h0;exact⟨ir.la _ (by have:=(ka (n:=k.len.toNat) (by omega) (by omega)).1;omega),ir.lb _ (by have:=(kS (n:=k.dist.toNat) (by omega) (by omega)).1;omega)⟩
theorem Fq {b:List UInt8} {A B:List (List Nat)} (hu:∀ (k:TokD) (out:List UInt8),okT k out→dV A B k):∀ {l:List TokD} {i j:Nat},TellsTo b i l j→∀ k∈l,dV A B k:=by
 intro l
 induction l with
 | nil=>intro i j _ k hk;cases hk
 | cons x l ih=>
  rintro i j ⟨m,h1,h2⟩ k hk
  rcases List.mem_cons.1 hk with rfl | hk
  ·exact hu _ _ h1.ok
  ·exact ih h2 k hk
theorem Fr {b:List UInt8} {i j p:Nat} {last:Bool} {l:List TokD} (h:TellsTo b i l j) (hi:i≤b.length):BlkS b p i j last (headL last 1++b7 FA FB l):=by
 obtain⟨g1,g2,_⟩:=h.le hi;have hus:=Fq (A:=FA) (B:=FB) (fun k out=>Fp) h;have hlen:=xg r9 l i j h hus;refine r8 (by omega) (Fl l) g1 g2 (fun t r most hp ht hm=> ?_) (fun t u most hp ht hu hm=> ?_)
 ·have hl:=ce ht (.inr hp);rw[ae] at hl;rw[eS,if_neg (by omega),if_pos rfl,fR,wX];simp only;rw[wY];simp only;rw[xe r9 l _ _ i j h hus hi hp ht (by omega) hm]
 ·have hl:=ce ht (.inr hp);rw[eS,if_neg (by omega),if_pos rfl,fR,wX];simp only;rw[wY];simp only;exact xf r9 l _ _ i j u h hus hi hm hp ht hu (by omega)
theorem Fs {t:List Nat} {most:Nat}:∀ (x:List UInt8) (p:Nat) (u q:List Nat) (out:List UInt8),p≤t.length→t.drop p=u→u++q=aF true x→q≠[]→out.length+x.length≤most→
  ev t most x.length p out= .inl 2:=by
 intro x
 induction x with
 | nil=>
  intro p u q out hp h hu hq;exact absurd (tc.1 hu).2 hq
 | cons c x ih=>
  intro p u q out hp h hu hq ho;have hl:=ce h (.inr hp);rw[aK] at ho;rw[r7] at hu;rw[aK,ev]
  rcases eT ⟨q,hu⟩ with ⟨q',hq',hu'⟩ | ⟨v,rfl,hv⟩
  ·have hl2:=congrArg List.length hu';rw[ae,show(ap c.toNat 8).reverse.length=8 by simp] at hl2;have hq2:q'.length≠0:=fun h0=>hq' (bC h0)
   rw[if_pos (by omega)]
  ·rw[ae,show(ap c.toNat 8).reverse.length=8 by simp] at hl;rw[if_neg (by omega),if_neg (by omega)];have h2:=cy h;rw[show(ap c.toNat 8).reverse.length=8 by simp] at h2;rw[List.append_assoc] at hu;exact ih (p+8) v q _ (by omega) h2 (ef hu) hq (by simp;omega)
def storedL (p:Nat) (x:List UInt8):List Nat:=
 List.replicate ((8-p%8)%8) 0++((ap x.length 16).reverse++((ap (65535-x.length) 16).reverse++aF true x))
theorem xh {b:List UInt8} {i j p:Nat} {last:Bool} (hij:i≤j) (hj:j≤b.length) (h64:j-i≤65535):BlkS b p i j last (headL last 0++storedL (p+3) ((b.drop i).take (j-i))):=by
 obtain⟨x,hx⟩:∃ x,(b.drop i).take (j-i)=x:=⟨_,rfl⟩;have hxl:x.length=j-i:=by rw[← hx,aJ,bH];omega
 have hbx:b.take i++x=b.take j:=by
  rw[← hx,show b.take j=b.take (i+(j-i)) by congr 1;omega,p7]
 rw[hx];have hbit:Bit (storedL (p+3) x):=(iZ _).append ((da _ _).reverse.append ((da _ _).reverse.append (kv _ _)));have hq:p+3+(8-(p+3)%8)%8=(p+3+7)/8*8:=by omega
 have hn:x.length<2^16:=by omega
 have hm16:65535-x.length<2^16:=by omega
 have hrl:(List.replicate ((8-(p+3)%8)%8) 0:List Nat).length=(8-(p+3)%8)%8:=by simp
 have hwl:∀ v,(ap v 16).reverse.length=16:=fun v=>by simp
 have hbl:(aF true x).length=8*x.length:=eg _ _;refine r8 (by omega) hbit hij hj (fun t r most hp ht hm=> ?_) (fun t u most hp ht hu hm=> ?_)
 ·unfold storedL at ht ⊢;rw[List.append_assoc] at ht;have h1:=cy ht;rw[hrl,hq,List.append_assoc] at h1;have l1:(p+3+7)/8*8≤t.length:=by have:=ce ht (.inr hp);rw[ae,hrl] at this;omega
  have h2:=cy h1;rw[hwl,List.append_assoc] at h2;have l2:=ce h1 (.inr l1);rw[ae,hwl,ae,ae,hwl] at l2;have h3:=cy h2;rw[hwl] at h3;have v1:vl t ((p+3+7)/8*8) 16=x.length:=fS h1 hn;have v2:vl t ((p+3+7)/8*8+16) 16=65535-x.length:=fS h2 hm16;rw[eS,if_pos rfl,gU]
  (try simp only)
  rw[if_neg (by omega),v1,v2,if_neg (by omega),show(p+3+7)/8*8+32=(p+3+7)/8*8+16+16 by omega,Fj x _ _ (by omega) h3 (by rw[lG (by omega)];exact hm),lG (by omega),hbx]
  by_cases hm2:most<j
  ·rw[if_pos (by omega),if_pos hm2]
  ·rw[if_neg (by omega),if_neg hm2];simp only[ae,hrl,hwl,hbl]
   congr 2
   omega
 ·obtain⟨q,hq',hu⟩:=hu;unfold storedL at hu;have hq2:q.length≠0:=fun h0=>hq' (bC h0)
  have hul:=congrArg List.length hu;simp only[ae,hrl,hwl,hbl] at hul;have htl:=ce ht (.inr hp);rw[eS,if_pos rfl,gU]
  (try simp only)
  by_cases hs:t.length<(p+3+7)/8*8+32
  ·rw[if_pos hs]
  ·rw[if_neg hs];have hge:(8-(p+3)%8)%8+32≤u.length:=by omega
   obtain⟨u3,rfl⟩:∃ u3,u=List.replicate ((8-(p+3)%8)%8) 0++((ap x.length 16).reverse++((ap (65535-x.length) 16).reverse++u3)):=by
    rcases eT ⟨q,hu⟩ with ⟨q1,_,e1⟩ | ⟨v1,rfl,e1⟩
    ·have:=congrArg List.length e1;rw[ae,hrl] at this;omega
    ·rw[List.append_assoc] at hu;have hu:=ef hu;rw[ae,hrl] at hge
     rcases eT ⟨q,hu⟩ with ⟨q2,_,e2⟩ | ⟨v2,rfl,e2⟩
     ·have:=congrArg List.length e2;rw[ae,hwl] at this;omega
     ·rw[List.append_assoc] at hu;have hu:=ef hu;rw[ae,hwl] at hge
      rcases eT ⟨q,hu⟩ with ⟨q3,hq3,e3⟩ | ⟨v3,rfl,e3⟩
      ·have hz3:q3.length≠0:=fun h0=>hq3 (bC h0)
       have:=congrArg List.length e3;rw[ae,hwl] at this;omega
      ·exact⟨v3,rfl⟩
   have hu3:u3++q=aF true x:=by
    rw[List.append_assoc] at hu;have hu:=ef hu;rw[List.append_assoc] at hu;have hu:=ef hu;rw[List.append_assoc] at hu;exact ef hu
   have h1:=cy ht;rw[hrl,hq] at h1;have l1:(p+3+7)/8*8≤t.length:=by omega
   have h2:=cy h1;rw[hwl] at h2;have h3:=cy h2;rw[hwl] at h3;have v1:vl t ((p+3+7)/8*8) 16=x.length:=fS h1 hn;have v2:vl t ((p+3+7)/8*8+16) 16=65535-x.length:=fS h2 hm16;rw[v1,v2,if_neg (by omega),show(p+3+7)/8*8+32=(p+3+7)/8*8+16+16 by omega];exact Fs x _ _ q _ (by omega) h3 hu3 hq' (by rw[lG (by omega)];omega)
theorem Ft (l:List Nat):cW (l.map fun(n:Nat)=>(n:Int))=l:=by
 induction l with
 | nil=>rfl
 | cons x l ih=>simp only[cW,dR,gq] at ih ⊢;rw[ih]
theorem sc {l:List Nat} (ok:OkC l) (h30:∀ n∈l,n≤30):bL (l.map fun(n:Nat)=>(n:Int))=(aB l,fullC l,0):=by
 rw[bL,Ft,if_neg,if_pos ok];rintro⟨x,hx,h⟩;obtain⟨n,hn,rfl⟩:=bW.1 hx;have:=h30 n hn;omega
theorem sd {l:List Nat} (ok:OkC l) (h30:∀ n∈l,n≤30) (hf:fullC l=true) (how:Nat):bM l how= .inr (aB l):=by
 rw[bM,sc ok h30];simp [hf]
theorem Fu {l:List Nat} (ok:OkC l) (h30:∀ n∈l,n≤30) (hu:usedL l≤1) (hl:longL l≤1):bM l 1= .inr (aB l):=by
 rw[bM,sc ok h30];simp only;rw[if_neg (by simp),if_neg (by omega)]
theorem kT {l:List Nat} {i:Nat} (hi:i<l.length) (h:0<l.getD i 0):∃ w,(aB l)[i]? =some w∧w≠[]:=
 ⟨eM l i,rB hi,fun h0=>by have:=congrArg List.length h0;rw[jd] at this;simp only[bD] at this;omega⟩
def StepRn (all:List Nat) (i:Nat) (r:Nat × Nat × Nat) (j:Nat):Prop:=
 j≤all.length∧((r.1<16∧r.2.1=0∧r.2.2=0∧j=i+1∧all.getD i 0=r.1)∨
 (r.1=16∧r.2.2=2∧r.2.1<4∧0<i∧j=i+(3+r.2.1)∧∀ t,i≤t→t<j→all.getD t 0=all.getD (i-1) 0)∨
 (r.1=17∧r.2.2=3∧r.2.1<8∧j=i+(3+r.2.1)∧∀ t,i≤t→t<j→all.getD t 0=0)∨
 (r.1=18∧r.2.2=7∧r.2.1<128∧j=i+(11+r.2.1)∧∀ t,i≤t→t<j→all.getD t 0=0))
def RunsTo (all:List Nat):Nat→List (Nat × Nat × Nat)→Nat→Prop
 | i,[],j=>i=j
 | i,r::R,j=>∃ m,StepRn all i r m∧RunsTo all m R j
theorem RunsTo.snoc {all:List Nat} {r:Nat × Nat × Nat} {m:Nat}:∀ {R:List (Nat × Nat × Nat)} {i j:Nat},RunsTo all i R j→StepRn all j r m→RunsTo all i (R++[r]) m:=by
 intro R
 induction R with
 | nil=>intro i j h s;cases h;exact⟨m,s,rfl⟩
 | cons x R ih=>rintro i j ⟨y,h1,h2⟩ s;exact⟨y,h1,ih h2 s⟩
theorem StepRn.lt {all:List Nat} {i j:Nat} {r:Nat × Nat × Nat} (h:StepRn all i r j):i<j∧j≤all.length:=by
 obtain⟨h0,h | h | h | h⟩:=h <;> omega
theorem RunsTo.le {all:List Nat}:∀ {R:List (Nat × Nat × Nat)} {i j:Nat},RunsTo all i R j→i≤all.length→i≤j∧j≤all.length∧R.length≤j-i:=by
 intro R
 induction R with
 | nil=>intro i j h hi;cases h;simp;exact hi
 | cons r R ih=>
  rintro i j ⟨m,h1,h2⟩ hi;obtain⟨g1,g2⟩:=h1.lt;obtain⟨g3,g4,g5⟩:=ih h2 g2;rw[aK];omega
theorem StepRn.sym {all:List Nat} {i j:Nat} {r:Nat × Nat × Nat} (h:StepRn all i r j):r.1≤18∧r.2.1<2^r.2.2:=by
 obtain⟨h0,h | h | h | h⟩:=h
 ·rw[h.2.1,h.2.2.1];exact⟨by omega,by decide⟩
 ·rw[h.2.1];exact⟨by omega,by omega⟩
 ·rw[h.2.1];exact⟨by omega,by omega⟩
 ·rw[h.2.1];exact⟨by omega,by omega⟩
def dA (W:List (List Nat)) (r:Nat × Nat × Nat):List Nat:=W.getD r.1 []++(ap r.2.1 r.2.2).reverse
theorem se {all:List Nat} {v:Nat}:∀ (m i:Nat),i+m≤all.length→(∀ t,i≤t→t<i+m→all.getD t 0=v)→all.take i++List.replicate m v=all.take (i+m):=by
 intro m
 induction m with
 | zero=>intro i _ _;simp
 | succ m ih=>
  intro i hi h;rw[ft,← List.append_assoc,ih i (by omega) fun t a b=>h t a (by omega),show i+(m+1)=i+m+1 by omega,List.take_succ_eq_append_getElem (by omega)]
  congr 2
  have:=h (i+m) (by omega) (by omega);rw[List.getD_eq_getElem?_getD,ai (by omega)] at this;exact this.symm
theorem mY {all:List Nat} {j:Nat} (h:j≤all.length):(all.take j).length=j:=by rw[aJ];omega
theorem Fv {all:List Nat} {i k:Nat} (h:k<i):(all.take i).getD k 0=all.getD k 0:=by
 rw[List.getD_eq_getElem?_getD,jn,if_pos h,← List.getD_eq_getElem?_getD]
theorem xi {t r:List Nat} {W:List (List Nat)} (pf:PF W) {all:List Nat} {i j f p:Nat} {x:Nat × Nat × Nat} (h:StepRn all i x j) (hw:∃ w,W[x.1]? =some w∧w≠[]) (hp:p≤t.length) (ht:t.drop p=dA W x++r):
  cP t W all.length (f+1) (all.take i) p=cP t W all.length f (all.take j) (p+(dA W x).length):=by
 obtain⟨w,hw1,hw2⟩:=hw;obtain⟨hl1,hl2⟩:=h.lt;have hsym:=h.sym;unfold dA at ht ⊢;rw[getD_some hw1] at ht ⊢;rw[List.append_assoc] at ht;have e1:=cy ht;have l1:p+w.length≤t.length:=by have:=ce ht (.inr hp);rw[ae] at this;omega
 have hll:=ce e1 (.inr l1);rw[ae] at hll;have hwl:(ap x.2.1 x.2.2).reverse.length=x.2.2:=by simp
 rw[hwl] at hll;rw[cP,if_pos (by rw[mY (by omega)];omega),ht,kd pf hw1 hw2];simp only;have hv:vl t (p+w.length) x.2.2=x.2.1:=fS e1 hsym.2;obtain⟨h0,h | h | h | h⟩:=h
 ·obtain⟨g1,g2,g3,g4,g5⟩:=h;have e:all.take i++[x.1]=all.take (i+1):=by
   rw[List.take_succ_eq_append_getElem (by omega)]
   congr 2
   rw[List.getD_eq_getElem?_getD,ai (by omega)] at g5;exact g5.symm
  rw[if_pos g1,e,g4,ae,hwl,g3];rfl
 ·obtain⟨g1,g2,g3,g4,g5,g6⟩:=h;rw[if_neg (by omega),g1,if_neg (fun e=>by have:=congrArg List.length e.2;rw[mY (by omega),bD] at this;omega)];simp only[if_true,show ¬ (16:Nat)=18 by decide,if_false];rw[g2] at hll hv hwl;rw[if_neg (by omega),hv,mY (by omega),Fv (by omega),se _ _ (by omega) (by rw[← g5];exact g6),← g5,ae,g2,hwl,ec]
 ·obtain⟨g1,g2,g3,g5,g6⟩:=h;rw[if_neg (by omega),g1,if_neg (fun e=>by omega)];simp only[show ¬ (17:Nat)=18 by decide,show ¬ (17:Nat)=16 by decide,if_false];rw[g2] at hll hv hwl;rw[if_neg (by omega),hv,se _ _ (by omega) (by rw[← g5];exact g6),← g5,ae,g2,hwl,ec]
 ·obtain⟨g1,g2,g3,g5,g6⟩:=h;rw[if_neg (by omega),g1,if_neg (fun e=>by omega)];simp only[show ¬ (18:Nat)=16 by decide,if_false,if_true];rw[g2] at hll hv hwl;rw[if_neg (by omega),hv,se _ _ (by omega) (by rw[← g5];exact g6),← g5,ae,g2,hwl,ec]
theorem Fw {t u:List Nat} {W:List (List Nat)} (pf:PF W) {all:List Nat} {i j f p:Nat} {x:Nat × Nat × Nat} (h:StepRn all i x j) (hw:∃ w,W[x.1]? =some w∧w≠[]) (hp:p≤t.length) (ht:t.drop p=u) (hu:∃ q,q≠[]∧u++q=dA W x):
  cP t W all.length (f+1) (all.take i) p= .inl 2:=by
 obtain⟨w,hw1,hw2⟩:=hw;obtain⟨q,hq,hu⟩:=hu;obtain⟨hl1,hl2⟩:=h.lt;unfold dA at hu;rw[getD_some hw1] at hu;rw[cP,if_pos (by rw[mY (by omega)];omega),ht]
 rcases eT ⟨q,hu⟩ with ⟨q',hq',hu'⟩ | ⟨v,rfl,hv⟩
 ·rw[mW pf hw1 u [] q' (by rw[ba];exact hu') hq']
 ·rw[kd pf hw1 hw2];simp only;rw[List.append_assoc] at hu;have hu:=ef hu;have l1:p+w.length≤t.length:=by have:=ce ht (.inr hp);rw[ae] at this;omega
  have e1:=cy ht;have hll:=ce e1 (.inr l1);have hq2:q.length≠0:=fun h0=>hq (bC h0)
  have hul:=congrArg List.length hu;rw[ae,show(ap x.2.1 x.2.2).reverse.length=x.2.2 by simp] at hul;obtain⟨h0,h | h | h | h⟩:=h
  ·omega
  ·obtain⟨g1,g2,g3,g4,g5,g6⟩:=h;rw[if_neg (by omega),g1,if_neg (fun e=>by have:=congrArg List.length e.2;rw[mY (by omega),bD] at this;omega)];simp only[if_true];rw[if_pos (by omega)]
  ·obtain⟨g1,g2,g3,g5,g6⟩:=h;rw[if_neg (by omega),g1,if_neg (fun e=>by omega)];simp only[show ¬ (17:Nat)=18 by decide,show ¬ (17:Nat)=16 by decide,if_false];rw[if_pos (by omega)]
  ·obtain⟨g1,g2,g3,g5,g6⟩:=h;rw[if_neg (by omega),g1,if_neg (fun e=>by omega)];simp only[show ¬ (18:Nat)=16 by decide,if_false,if_true];rw[if_pos (by omega)]
theorem xj {t r:List Nat} {W:List (List Nat)} (pf:PF W) {all:List Nat}:∀ (R:List (Nat × Nat × Nat)) (i p f:Nat),RunsTo all i R all.length→i≤all.length→(∀ x∈R,∃ w,W[x.1]? =some w∧w≠[])→p≤t.length→t.drop p=R.flatMap (dA W)++r→R.length<f→
  cP t W all.length f (all.take i) p= .inr (p+(R.flatMap (dA W)).length,all):=by
 intro R
 induction R with
 | nil=>
  intro i p f h _ _ hp ht hf;obtain⟨f,rfl⟩:∃ g,f=g+1:=⟨f-1,by simp at hf;omega⟩;cases h;rw[cP,cI,if_neg (by omega),if_neg (by omega)];rfl
 | cons x R ih=>
  rintro i p f ⟨m,h1,h2⟩ hi hw hp ht hf;obtain⟨f,rfl⟩:∃ g,f=g+1:=⟨f-1,by simp at hf;omega⟩;rw[eZ,List.append_assoc] at ht;rw[xi pf h1 (hw x (by simp)) hp ht];have l1:p+(dA W x).length≤t.length:=by have:=ce ht (.inr hp);rw[ae] at this;omega
  rw[ih m _ f h2 h1.lt.2 (fun y hy=>hw y (by simp [hy])) l1 (cy ht) (by simp at hf;omega),eZ,ae,ec]
theorem Fx {t:List Nat} {W:List (List Nat)} (pf:PF W) {all:List Nat}:∀ (R:List (Nat × Nat × Nat)) (i p f:Nat) (u:List Nat),RunsTo all i R all.length→(∀ x∈R,∃ w,W[x.1]? =some w∧w≠[])→p≤t.length→t.drop p=u→(∃ q,q≠[]∧u++q=R.flatMap (dA W))→R.length<f→
  cP t W all.length f (all.take i) p= .inl 2:=by
 intro R
 induction R with
 | nil=>
  rintro i p f u h _ hp ht ⟨q,hq,hu⟩ hf;exact absurd (tc.1 hu).2 hq
 | cons x R ih=>
  rintro i p f u ⟨m,h1,h2⟩ hw hp ht ⟨q,hq,hu⟩ hf;obtain⟨f,rfl⟩:∃ g,f=g+1:=⟨f-1,by simp at hf;omega⟩;rw[eZ] at hu
  rcases eT ⟨q,hu⟩ with ⟨q',hq',hu'⟩ | ⟨v,rfl,hv⟩
  ·exact Fw pf h1 (hw x (by simp)) hp ht ⟨q',hq',hu'⟩
  ·rw[xi pf h1 (hw x (by simp)) hp ht];have l1:p+(dA W x).length≤t.length:=by have:=ce ht (.inr hp);rw[ae] at this;omega
   rw[List.append_assoc] at hu;exact ih m _ f v h2 (fun y hy=>hw y (by simp [hy])) l1 (cy ht) ⟨q,hq,ef hu⟩ (by simp at hf;omega)
def ew (me:List Nat) (l:List Nat):List Nat:=l.flatMap fun i=>(ap (me.getD i 0) 3).reverse
theorem pj (me:List Nat) (l:List Nat):(ew me l).length=3*l.length:=by
 induction l with
 | nil=>rfl
 | cons i l ih=>
  rw[ew,eZ,ae,show(List.flatMap (fun i=>(ap (me.getD i 0) 3).reverse) l).length=3*l.length from ih,aK];simp;omega
theorem xk {t r me:List Nat} (h8:∀ i,me.getD i 0<8):∀ (l:List Nat) (p:Nat) (lens:List Nat),p≤t.length→t.drop p=ew me l++r→
  eO t l p lens= .inr (p+3*l.length,l.foldl (fun a i=>a.set i (me.getD i 0)) lens):=by
 intro l
 induction l with
 | nil=>intro p lens hp ht;rfl
 | cons i l ih=>
  intro p lens hp ht;have ht':t.drop p=(ap (me.getD i 0) 3).reverse++(ew me l++r):=by rw[ht,ew,eZ,List.append_assoc];rfl
  have hl:=ce ht' (.inr hp);rw[ae,show(ap (me.getD i 0) 3).reverse.length=3 by simp] at hl;have h2:=cy ht';rw[show(ap (me.getD i 0) 3).reverse.length=3 by simp] at h2;rw[eO,if_neg (by omega),fS ht' (h8 i),ih (p+3) _ (by omega) h2,lR,aK]
  congr 2;omega
theorem Fy {t me:List Nat} (h8:∀ i,me.getD i 0<8):∀ (l:List Nat) (p:Nat) (lens u:List Nat),p≤t.length→t.drop p=u→(∃ q,q≠[]∧u++q=ew me l)→
  eO t l p lens= .inl 2:=by
 intro l
 induction l with
 | nil=>rintro p lens u hp ht ⟨q,hq,hu⟩;exact absurd (tc.1 hu).2 hq
 | cons i l ih=>
  rintro p lens u hp ht ⟨q,hq,hu⟩;have hl:=ce ht (.inr hp);rw[ew,eZ] at hu;rw[eO]
  rcases eT ⟨q,hu⟩ with ⟨q',hq',hu'⟩ | ⟨v,rfl,hv⟩
  ·have hl2:=congrArg List.length hu';rw[ae,show(ap (me.getD i 0) 3).reverse.length=3 by simp] at hl2;have hq2:q'.length≠0:=fun h0=>hq' (bC h0)
   rw[if_pos (by omega)]
  ·rw[ae,show(ap (me.getD i 0) 3).reverse.length=3 by simp] at hl;have h2:=cy ht;rw[show(ap (me.getD i 0) 3).reverse.length=3 by simp] at h2;rw[if_neg (by omega)];rw[List.append_assoc] at hu;exact ih (p+3) _ v (by omega) h2 ⟨q,hq,ef hu⟩
theorem xn (me:List Nat):∀ (l lens:List Nat) (j:Nat),(l.foldl (fun a i=>a.set i (me.getD i 0)) lens).length=lens.length∧(j<lens.length→(l.foldl (fun a i=>a.set i (me.getD i 0)) lens).getD j 0=if j∈l then me.getD j 0 else lens.getD j 0):=by
 intro l
 induction l with
 | nil=>intro lens j;exact⟨rfl,fun _=>by simp⟩
 | cons i l ih=>
  intro lens j;obtain⟨h1,h2⟩:=ih (lens.set i (me.getD i 0)) j;rw[lR];refine⟨by rw[h1,eE],fun hj=> ?_⟩;rw[h2 (by rw[eE];exact hj)]
  by_cases hjl:j∈l
  ·rw[if_pos hjl,if_pos (by simp [hjl])]
  ·rw[if_neg hjl]
   by_cases hij:j=i
   ·subst hij;rw[if_pos (by simp),List.getD_eq_getElem?_getD,li,if_pos rfl,if_pos hj];rfl
   ·rw[if_neg (by simp [hij,hjl]),List.getD_eq_getElem?_getD,li,if_neg (fun e=>hij e.symm),← List.getD_eq_getElem?_getD]
theorem xo {me:List Nat} (h:me.length=19):be.foldl (fun a i=>a.set i (me.getD i 0)) (List.replicate 19 0)=me:=by
 obtain⟨h1,_⟩:=xn me be (List.replicate 19 0) 0;rw[dK] at h1;refine jU (by rw[h1,h]) fun j hj1 hj2=> ?_
 have hj:j<19:=by omega
 obtain⟨_,h2⟩:=xn me be (List.replicate 19 0) j;have h2:=h2 (by rw[dK];exact hj);have hmem:j∈be:=by
  have:∀ j,j<19→j∈be:=by decide
  exact this j hj
 rw[if_pos hmem,List.getD_eq_getElem?_getD,List.getD_eq_getElem?_getD,ai hj1,ai hj2] at h2;exact h2
structure OwnOk (la lb:List Nat):Prop where
 l1:la.length=286
 l2:lb.length=30
 a30:∀ n∈la,n≤15
 b30:∀ n∈lb,n≤15
 fa:fullC la=true
 oa:OkC la
 ob:OkC lb
 fb:fullC lb=true∨(usedL lb≤1∧longL lb≤1)
 eob:0<la.getD 256 0
structure MetaOk (me:List Nat) (R:List (Nat × Nat × Nat)):Prop where
 len:me.length=19
 le:∀ n∈me,n≤7
 full:fullC me=true
 ok:OkC me
 used:∀ r∈R,0<me.getD r.1 0
def lH (la lb me:List Nat) (R:List (Nat × Nat × Nat)) (l:List TokD):List Nat:=
 (ap 29 5).reverse++((ap 29 5).reverse++((ap 15 4).reverse++(ew me be++(R.flatMap (dA (aB me))++b7 (aB la) (aB lb) l))))
theorem Fz (W:List (List Nat)) (hW:∀ w∈W,Bit w) (R:List (Nat × Nat × Nat)):Bit (R.flatMap (dA W)):=by
 intro b hb;obtain⟨r,hr,hb⟩:=iS.1 hb
 rcases cA.1 hb with h | h
 ·rw[List.getD_eq_getElem?_getD] at h;cases hg:W[r.1]? with
  | none=>rw[hg] at h;simp at h
  | some w=>rw[hg] at h;exact hW w (aG hg) b h
 ·exact(da _ _).reverse b h
theorem po {W:List (List Nat)} (hW:∀ w∈W,Bit w) (i:Nat):Bit (W.getD i []):=by
 intro b hb;rw[List.getD_eq_getElem?_getD] at hb;cases hg:W[i]? with
 | none=>rw[hg] at hb;simp at hb
 | some w=>rw[hg] at hb;exact hW w (aG hg) b hb
theorem FC {A B:List (List Nat)} (hA:∀ w∈A,Bit w) (hB:∀ w∈B,Bit w) (l:List TokD):Bit (b7 A B l):=by
 have hm:∀ far n,Bit (jk far n):=fun far n=>(da _ _).reverse
 unfold b7;refine Bit.append ?_ (po hA _);intro b hb;obtain⟨k,hk,hb⟩:=iS.1 hb;unfold cG at hb
 split at hb
 ·exact po hA _ b hb
 ·exact((po hA _).append ((hm _ _).append ((po hB _).append (hm _ _)))) b hb
theorem FD (me l:List Nat):Bit (ew me l):=by
 intro b hb;obtain⟨r,hr,hb⟩:=iS.1 hb;exact(da _ _).reverse b hb
theorem FE {la lb:List Nat} (h:OwnOk la lb):GoodU (aB la) (aB lb):=
 ⟨lC h.oa fun n hn=>by have:=h.a30 n hn;omega,lC h.ob fun n hn=>by have:=h.b30 n hn;omega,kT (by rw[h.l1];omega) h.eob⟩
theorem own_blk {b:List UInt8} {i j p:Nat} {last:Bool} {l:List TokD} {la lb me:List Nat} {R:List (Nat × Nat × Nat)} (h:TellsTo b i l j) (hi:i≤b.length) (ok:OwnOk la lb) (mo:MetaOk me R) (hR:RunsTo (la++lb) 0 R (la++lb).length)
  (hus:∀ k∈l,dV (aB la) (aB lb) k):BlkS b p i j last (headL last 2++lH la lb me R l):=by
 obtain⟨g1,g2,_⟩:=h.le hi;have G:=FE ok;have hlen:=xg G l i j h hus;have hall:(la++lb).length=316:=by rw[ae,ok.l1,ok.l2]
 have hRl:=(hR.le (Nat.zero_le _)).2.2;rw[hall] at hRl;have hm8:∀ i,me.getD i 0<8:=fun i=>by
  rw[List.getD_eq_getElem?_getD];cases hg:me[i]? with
  | none=>simp
  | some n=>have:=mo.le n (aG hg);simp;omega
 have pfm:PF (aB me):=lC mo.ok fun n hn=>by have:=mo.le n hn;omega
 have hRw:∀ x∈R,∃ w,(aB me)[x.1]? =some w∧w≠[]:=fun x hx=>by
  have h0:=mo.used x hx;refine kT ?_ h0
  rcases cf x.1 me.length with h | h
  ·exact h
  ·rw[List.getD_eq_getElem?_getD,bg h] at h0;simp at h0
 have w5:∀ v,(ap v 5).reverse.length=5:=fun v=>by simp
 have w4:∀ v,(ap v 4).reverse.length=4:=fun v=>by simp
 have hml:(ew me be).length=57:=by rw[pj];rfl
 have hord:be.take 19=be:=rfl;have hwm:bM me 0= .inr (aB me):=sd mo.ok (fun n hn=>by have:=mo.le n hn;omega) mo.full 0;have hwa:bM la 0= .inr (aB la):=sd ok.oa (fun n hn=>by have:=ok.a30 n hn;omega) ok.fa 0;have hwb:bM lb 1= .inr (aB lb):=by
  rcases ok.fb with hf | ⟨h1,h2⟩
  ·exact sd ok.ob (fun n hn=>by have:=ok.b30 n hn;omega) hf 1
  ·exact Fu ok.ob (fun n hn=>by have:=ok.b30 n hn;omega) h1 h2
 have he256:¬ (la++lb).getD 256 0=0:=by
  have:=ok.eob;rw[List.getD_eq_getElem?_getD,cR (by rw[ok.l1];omega),← List.getD_eq_getElem?_getD];omega
 have tk:(la++lb).take 286=la:=by rw[← ok.l1];exact pW
 have dk:(la++lb).drop 286=lb:=by rw[← ok.l1];exact zt
 have hb:Bit (lH la lb me R l):=(da _ _).reverse.append ((da _ _).reverse.append ((da _ _).reverse.append ((FD _ _).append ((Fz _ (je _) _).append (FC (je _) (je _) l)))));refine r8 (by omega) hb g1 g2 (fun t r most hp ht hm=> ?_) (fun t u most hp ht hu hm=> ?_)
 ·unfold lH at ht ⊢;rw[List.append_assoc] at ht;have l0:=ce ht (.inr hp);rw[ae,w5,ae,ae,w5,ae,w4] at l0;have v1:vl t (p+3) 5=29:=fS ht (by decide);have h1:=cy ht;rw[w5,List.append_assoc] at h1;have v2:vl t (p+3+5) 5=29:=fS h1 (by decide);have h2:=cy h1;rw[w5,List.append_assoc] at h2;have v3:vl t (p+3+10) 4=15:=fS h2 (by decide);have h3:=cy h2;rw[w4,List.append_assoc] at h3;have l3:=ce h3 (.inr (by omega));rw[ae,hml] at l3;have h4:=cy h3;rw[hml,List.append_assoc] at h4;have l4:=ce h4 (.inr (by omega));rw[ae,ae] at l4;have h5:=cy h4;rw[eS,if_neg (by omega),if_neg (by omega),if_pos rfl,gV,if_neg (by omega)];simp only[v1,v2,v3];rw[if_neg (by omega),hord,xk hm8 be (p+3+14) _ (by omega) h3,xo mo.len];simp only;rw[hwm];simp only;have hL:=xj (t:=t) (r:=b7 (aB la) (aB lb) l++r) pfm R 0 (p+3+10+4+57) 317 hR (by omega) hRw (by omega) h4 (by omega);rw[hall,zv] at hL;rw[show p+3+14+3*be.length=p+3+10+4+57 by have:be.length=19:=rfl;omega,show(29+257)+(29+1)=316 by rfl,hL];simp only;rw[if_neg he256,show 29+257=286 by rfl,tk,dk,fR,hwa];simp only;rw[hwb];simp only;rw[xe G l _ _ i j h hus hi (by omega) h5 (by omega) hm]
  by_cases hm2:most<j
  ·rw[if_pos hm2,if_pos hm2]
  ·rw[if_neg hm2,if_neg hm2];simp only[ae,w5,w4,hml]
   congr 2
   omega
 ·obtain⟨q,hq,hu⟩:=hu;unfold lH at hu;have hq2:q.length≠0:=fun h0=>hq (bC h0)
  have htl:=ce ht (.inr hp);rw[eS,if_neg (by omega),if_neg (by omega),if_pos rfl,gV]
  by_cases hs:t.length<p+3+14
  ·rw[if_pos hs]
  ·rw[if_neg hs];have hge:14≤u.length:=by omega
   obtain⟨v,rfl⟩:∃ v,u=(ap 29 5).reverse++((ap 29 5).reverse++((ap 15 4).reverse++v)):=by
    rcases eT ⟨q,hu⟩ with ⟨q1,_,e1⟩ | ⟨v1,rfl,e1⟩
    ·have:=congrArg List.length e1;rw[ae,w5] at this;omega
    ·rw[List.append_assoc] at hu;have hu:=ef hu;rw[ae,w5] at hge
     rcases eT ⟨q,hu⟩ with ⟨q2,_,e2⟩ | ⟨v2,rfl,e2⟩
     ·have:=congrArg List.length e2;rw[ae,w5] at this;omega
     ·rw[List.append_assoc] at hu;have hu:=ef hu;rw[ae,w5] at hge
      rcases eT ⟨q,hu⟩ with ⟨q3,hq3,e3⟩ | ⟨v3,rfl,e3⟩
      ·have hz3:q3.length≠0:=fun h0=>hq3 (bC h0)
       have:=congrArg List.length e3;rw[ae,w4] at this;omega
      ·exact⟨v3,rfl⟩
   have hu3:v++q=ew me be++(R.flatMap (dA (aB me))++b7 (aB la) (aB lb) l):=by
    rw[List.append_assoc] at hu;have hu:=ef hu;rw[List.append_assoc] at hu;have hu:=ef hu;rw[List.append_assoc] at hu;exact ef hu
   have v1:vl t (p+3) 5=29:=fS ht (by decide);have h1:=cy ht;rw[w5] at h1;have v2:vl t (p+3+5) 5=29:=fS h1 (by decide);have h2:=cy h1;rw[w5] at h2;have v3:vl t (p+3+10) 4=15:=fS h2 (by decide);have h3:=cy h2;rw[w4] at h3;simp only[v1,v2,v3];rw[if_neg (by omega),hord]
   rcases eT ⟨q,hu3⟩ with ⟨q4,hq4,e4⟩ | ⟨v4,rfl,e4⟩
   ·rw[Fy hm8 be (p+3+14) _ v (by omega) h3 ⟨q4,hq4,e4⟩]
   ·rw[xk hm8 be (p+3+14) _ (by omega) h3,xo mo.len];simp only;rw[hwm];simp only;rw[List.append_assoc] at hu3;have hu4:=ef hu3;have l3:=ce h3 (.inr (by omega));rw[ae,hml] at l3;have h4:=cy h3;rw[hml] at h4;have l4:=ce h4 (.inr (by omega));rw[show p+3+14+3*be.length=p+3+10+4+57 by have:be.length=19:=rfl;omega,show(29+257)+(29+1)=316 by rfl]
    rcases eT ⟨q,hu4⟩ with ⟨q5,hq5,e5⟩ | ⟨v5,rfl,e5⟩
    ·have hL:=Fx (t:=t) pfm R 0 (p+3+10+4+57) 317 v4 hR hRw (by omega) h4 ⟨q5,hq5,e5⟩ (by omega);rw[hall,zv] at hL;rw[hL]
    ·have hL:=xj (t:=t) (r:=v5) pfm R 0 (p+3+10+4+57) 317 hR (by omega) hRw (by omega) h4 (by omega);rw[hall,zv] at hL;rw[hL];simp only;rw[if_neg he256,show 29+257=286 by rfl,tk,dk,fR,hwa];simp only;rw[hwb];simp only;have h5:=cy h4;rw[ae] at l4;have l5:=ce h5 (.inr (by omega));rw[List.append_assoc] at hu4;exact xf G l _ _ i j v5 h hus hi hm (by omega) h5 ⟨q,hq,ef hu4⟩ (by omega)
def fT (k:TokD):Prop:=k.len=0∨(3≤k.len∧k.len≤258∧1≤k.dist∧k.dist≤32768)
theorem sf {b:List UInt8}:∀ {l:List TokD} {i j:Nat},TellsTo b i l j→∀ k∈l,fT k:=by
 intro l
 induction l with
 | nil=>intro i j _ k hk;cases hk
 | cons x l ih=>
  rintro i j ⟨m,h1,h2⟩ k hk
  rcases List.mem_cons.1 hk with rfl | hk
  ·rcases h1.ok with h | ⟨a,b,c,d,e⟩
   ·exact .inl h
   ·exact .inr ⟨a,b,c,e⟩
  ·exact ih h2 k hk
def d8 (k:TokD):Nat:=if k.len=0 then k.lit.toNat else 257+aR false k.len.toNat
def eU (l:List Nat) (p:Nat):List Nat:=l.set p (l.getD p 0+1)
def iQ (a:List Nat) (k:TokD):List Nat:=if k.len=0 then a else eU a (aR true k.dist.toNat)
def kU:List Nat:=(List.replicate 286 0).set 256 1
def mZ:List Nat:=List.replicate 30 0
def fj (T:List TokD):List Nat:=T.foldl (fun a k=>eU a (d8 k)) kU
def eV (T:List TokD):List Nat:=T.foldl iQ mZ
def fk (T:List TokD):List Nat:=if T.length=0 then(fj T).set 0 1 else fj T
theorem xp (l:List Nat) (p:Nat):(eU l p).length=l.length:=by simp [eU]
theorem FF (l:List Nat) (k:TokD):(iQ l k).length=l.length:=by unfold iQ;split <;> simp [eU]
theorem sg (l:List Nat) (p i:Nat) (h:p<l.length):(eU l p).getD i 0=l.getD i 0+if i=p then 1 else 0:=by
 unfold eU;rw[List.getD_eq_getElem?_getD,li]
 by_cases e:p=i
 ·subst e;rw[if_pos rfl,if_pos h,if_pos rfl];rfl
 ·rw[if_neg e,if_neg (fun h=>e h.symm),← List.getD_eq_getElem?_getD];rfl
theorem xq (T:List TokD) (k:TokD):fj (T++[k])=eU (fj T) (d8 k):=by simp [fj,lU]
theorem xr (T:List TokD) (k:TokD):eV (T++[k])=iQ (eV T) k:=by simp [eV,lU]
theorem m3:∀ T,(fj T).length=286:=by
 have key:∀ (T:List TokD) (a:List Nat),(T.foldl (fun a k=>eU a (d8 k)) a).length=a.length:=by
  intro T
  induction T with
  | nil=>intro a;rfl
  | cons k T ih=>intro a;rw[lR,ih,xp]
 intro T;rw[fj,key,kU,eE,dK]
theorem m4:∀ T,(eV T).length=30:=by
 have key:∀ (T:List TokD) (a:List Nat),(T.foldl iQ a).length=a.length:=by
  intro T
  induction T with
  | nil=>intro a;rfl
  | cons k T ih=>intro a;rw[lR,ih,FF]
 intro T;rw[eV,key];simp [mZ]
theorem sh {k:TokD} (h:fT k):d8 k<286∧d8 k≠256:=by
 unfold d8
 split
 ·have:k.lit.toNat<256:=bh _;omega
 ·obtain⟨h1,h2,_⟩:=h.resolve_left (by assumption);have:=(ka (n:=k.len.toNat) (by omega) (by omega)).1;omega
theorem xt {k:TokD} (h:fT k) (h0:k.len≠0):aR true k.dist.toNat<30:=by
 obtain⟨h1,h2,h3,h4⟩:=h.resolve_left h0;have:=(kS (n:=k.dist.toNat) (by omega) (by omega)).1;omega
theorem FG (i:Nat):kU.getD i 0=if i=256 then 1 else 0:=by
 unfold kU;rw[List.getD_eq_getElem?_getD,li]
 by_cases e:i=256
 ·subst e;rw[if_pos rfl,if_pos (by rw[dK];omega),if_pos rfl];exact iB
 ·rw[if_neg (fun h=>e h.symm),if_neg e,eb]
  split <;> rfl
theorem FH (i:Nat):mZ.getD i 0=0:=by
 unfold mZ;rw[List.getD_eq_getElem?_getD,eb]
 split <;> rfl
theorem si {α:Type} {P:List α→Prop} (h0:P []) (h1:∀ l a,P l→P (l++[a])):∀ l,P l:=by
 have key:∀ l:List α,P l.reverse:=by
  intro l
  induction l with
  | nil=>exact h0
  | cons a l ih=>rw[km];exact h1 _ _ ih
 intro l;have:=key l.reverse;rwa [lV] at this
theorem pq:∀ (T:List TokD),(∀ k∈T,fT k)→∀ i,(fj T).getD i 0=(if i=256 then 1 else 0)+(T.filter fun k=>decide (d8 k=i)).length:=by
 refine si ?_ fun T k ih=> ?_
 ·intro _ i;show kU.getD i 0=_;rw[FG];rfl
 ·intro hok i;have hk:=(sh (hok k (by simp))).1;rw[xq,sg _ _ _ (by rw[m3];exact hk),ih (fun x hx=>hok x (by simp [hx])),jx,ae,ec]
  congr 2
  by_cases e:d8 k=i
  ·rw[if_pos e.symm,cT,if_pos (by simpa using e)];rfl
  ·rw[if_neg (fun h=>e h.symm),cT,if_neg (by simpa using e)];rfl
theorem xu:∀ (T:List TokD),(∀ k∈T,fT k)→∀ i,(eV T).getD i 0=(T.filter fun k=>decide (k.len≠0∧aR true k.dist.toNat=i)).length:=by
 refine si ?_ fun T k ih=> ?_
 ·intro _ i;show mZ.getD i 0=_;rw[FH];rfl
 ·intro hok i;rw[xr,jx,ae,← ih (fun x hx=>hok x (by simp [hx]))];unfold iQ
  by_cases h0:k.len=0
  ·rw[if_pos h0,cT,if_neg (by simp [h0])];rfl
  ·rw[if_neg h0,sg _ _ _ (by rw[m4];exact xt (hok k (by simp)) h0)]
   congr 1
   by_cases e:aR true k.dist.toNat=i
   ·rw[if_pos e.symm,cT,if_pos (by simp [h0,e])];rfl
   ·rw[if_neg (fun h=>e h.symm),cT,if_neg (by simp [e])];rfl
theorem sj {l:List Nat} {m:Nat} (h:∀ i,l.getD i 0≤m):∀ n∈l,n≤m:=by
 intro n hn;obtain⟨i,hi,rfl⟩:=qb.1 hn;have:=h i;rw[List.getD_eq_getElem?_getD,ai hi] at this;exact this
theorem pt {T:List TokD} (hok:∀ k∈T,fT k):∀ n∈fj T,n≤T.length+1:=sj fun i=>by
 rw[pq T hok];have:=lh (fun k=>decide (d8 k=i)) T
 split <;> omega
theorem xw {T:List TokD} (hok:∀ k∈T,fT k):∀ n∈eV T,n≤T.length:=sj fun i=>by
 rw[xu T hok];exact lh _ T
theorem pu (T:List TokD):(fk T).length=286:=by unfold fk;split <;> simp [m3]
theorem FI {T:List TokD} (hok:∀ k∈T,fT k):∀ n∈fk T,n≤T.length+1:=by
 unfold fk
 split
 ·intro n hn
  rcases l9 hn with h | rfl
  ·exact pt hok n h
  ·omega
 ·exact pt hok
theorem sk (o:List Nat):comes o≤o.length:=by
 rw[comes,dU,bI];have:=lh (fun i=>decide (0<o.getD i 0)) (List.range o.length);rwa [jQ] at this
theorem sn {o:List Nat} {i j:Nat} (hi:0<o.getD i 0) (hj:0<o.getD j 0) (h:i≠j):2≤comes o:=by
 have lt:∀ i,0<o.getD i 0→i<o.length:=fun i hi=>by
  rcases cf i o.length with h | h
  ·exact h
  ·rw[List.getD_eq_getElem?_getD,bg h] at hi;cases hi
 rw[comes,dU,bI];have h1:i∈(List.range o.length).filter fun i=>decide (0<o.getD i 0):=jw.2 ⟨gJ.2 (lt _ hi),by simpa using hi⟩
 have h2:j∈(List.range o.length).filter fun i=>decide (0<o.getD i 0):=jw.2 ⟨gJ.2 (lt _ hj),by simpa using hj⟩
 generalize (List.range o.length).filter (fun i=>decide (0<o.getD i 0))=L at*
 match L,h1,h2 with
 | [x],h1,h2=>exact absurd ((List.mem_singleton.1 h1).trans (List.mem_singleton.1 h2).symm) h
 | x::y::L,_,_=>simp
theorem FJ {o l:List Nat} {most:Nat} (h:LimOk o most l):usedL l=comes o:=by
 rw[usedL,comes,dU,bI];have e:∀ m,m≤l.length→((l.take m).filter fun n=>decide (0<n)).length=((List.range m).filter fun i=>decide (0<o.getD i 0)).length:=by
  intro m
  induction m with
  | zero=>intro _;rfl
  | succ m ih=>
   intro hm;rw[List.take_succ_eq_append_getElem (by omega),jx,gX,jx,ae,ae,ih (by omega)]
   congr 1
   have h1:=h.pos m (by rw[← h.len];omega);rw[List.getD_eq_getElem?_getD,ai (by omega:m<l.length)] at h1
   by_cases hp:0<o.getD m 0
   ·rw[cT,if_pos (by simpa using h1.2 hp),cT,if_pos (by simpa using hp)];rfl
   ·rw[cT,if_neg (fun hq=>hp (h1.1 (by simpa using hq))),cT,if_neg (by simpa using hp)];rfl
 have:=e l.length (Nat.le_refl _);rwa [cI,h.len] at this
theorem FK {l:List Nat} (h1:∀ n∈l,n≤1) (hu:usedL l≤1):OkC l∧longL l≤1:=by
 refine⟨?_,?_⟩
 ·have hs:∀ n,krS n l≤2^(n-1)*usedL l:=by
   intro n;clear hu
   induction l with
   | nil=>simp [krS]
   | cons x l ih=>
    have:=ih fun n hn=>h1 n (by simp [hn])
    have hx:=h1 x (by simp);rw[oF,usedL,cT]
    by_cases h0:0<x
    ·rw[if_pos (by simpa using h0),aK,Nat.mul_succ,kj];refine Nat.add_le_add this ?_;obtain rfl:x=1:=by omega
     unfold io
     split
     ·exact Nat.le_refl _
     ·exact Nat.zero_le _
    ·rw[if_neg (by simpa using h0)];have e:io n x=0:=by unfold io;rw[if_neg (by omega)]
     rw[e,bQ];exact this
  intro n hn;have e:(aU l n+ck l n)*2=krS (n+1) l:=by rw[rk,oG]
  have:=hs (n+1);have h2:2^n*usedL l≤2^n*1:=iV _ hu;rw[ld] at this;omega
 ·have key:∀ (l:List Nat) (a:Nat),a≤1→(∀ n∈l,n≤1)→l.foldl max a≤1:=by
   intro l
   induction l with
   | nil=>intro a ha _;exact ha
   | cons x l ih=>intro a ha h;exact ih _ (by have:=h x (by simp);omega) fun n hn=>h n (by simp [hn])
  exact key l 0 (by omega) h1
theorem py {T:List TokD} (hok:∀ k∈T,fT k) {la lb:List Nat} (ha:LimOk (fk T) 15 la) (hb:LimOk (eV T) 15 lb):OwnOk la lb∧∀ k∈T,dV (aB la) (aB lb) k:=by
 have h256:0<(fj T).getD 256 0:=by rw[pq T hok,if_pos rfl];omega
 have h256c:0<(fk T).getD 256 0:=by
  unfold fk
  split
  ·rw[List.getD_eq_getElem?_getD,ju (by omega),← List.getD_eq_getElem?_getD];exact h256
  ·exact h256
 have two:2≤comes (fk T):=by
  rcases fM T.length with h | h
  ·refine sn (i:=0) (j:=256) ?_ h256c (by omega);unfold fk;rw[if_pos h,List.getD_eq_getElem?_getD,jt (by rw[m3];omega)];exact Nat.one_pos
  ·obtain⟨k,R,rfl⟩:∃ k R,T=k::R:=by
    cases T with
    | nil=>simp at h
    | cons k R=>exact⟨k,R,rfl⟩
   obtain⟨p1,p2⟩:=sh (hok k (by simp));refine sn (i:=d8 k) (j:=256) ?_ h256c p2;unfold fk;rw[if_neg (by simp),pq _ hok,if_neg p2,cT,if_pos (by simp)];simp
 obtain⟨fa,oa⟩:=rm (ha.full two);have hla:la.length=286:=by rw[ha.len,pu]
 have hlb:lb.length=30:=by rw[hb.len,m4]
 have hB:OkC lb∧(fullC lb=true∨(usedL lb≤1∧longL lb≤1)):=by
  by_cases h2:2≤comes (eV T)
  ·obtain⟨f,o⟩:=rm (hb.full h2);exact⟨o,.inl f⟩
  ·have hu:usedL lb≤1:=by rw[FJ hb];omega
   obtain⟨o,l1⟩:=FK (hb.one (by omega)) hu;exact⟨o,.inr ⟨hu,l1⟩⟩
 refine⟨⟨hla,hlb,ha.le,hb.le,fa,oa,hB.1,hB.2,?_⟩,fun k hk=> ?_⟩
 ·exact(ha.pos 256 (by rw[pu];omega)).2 h256c
 ·obtain⟨p1,p2⟩:=sh (hok k hk);have hT0:T.length≠0:=fun h=>by rw[bC h] at hk;cases hk
  have hpos:0<la.getD (d8 k) 0:=by
   refine(ha.pos _ (by rw[pu];exact p1)).2 ?_;unfold fk;rw[if_neg hT0,pq T hok];have:0<(T.filter fun x=>decide (d8 x=d8 k)).length:=zw (jw.2 ⟨hk,by simp⟩);omega
  have hw:=kT (by rw[hla];exact p1) hpos;unfold dV
  by_cases h0:k.len=0
  ·rw[if_pos h0];unfold d8 at hw;rw[if_pos h0] at hw;exact hw
  ·rw[if_neg h0];unfold d8 at hw;rw[if_neg h0] at hw;refine⟨hw,?_⟩;have q:=xt (hok k hk) h0;refine kT (by rw[hlb];exact q) ((hb.pos _ (by rw[m4];exact q)).2 ?_);rw[xu T hok];exact zw (jw.2 ⟨hk,by simp [h0]⟩)
theorem so (l:List Nat) (n:Nat):(l++[n]).sum=l.sum+n:=by simp
theorem FL (l:List Nat):∀ k,k≤l.length→(usedL (l.take k)=0→(l.take k).sum=0∧longL (l.take k)=0)∧(usedL (l.take k)=1→(l.take k).sum=longL (l.take k)∧1≤longL (l.take k)):=by
 intro k
 induction k with
 | zero=>intro _;simp [usedL,longL]
 | succ k ih=>
  intro hk;have htk:l.take (k+1)=l.take k++[l[k]]:=by rw[fY,ai (by omega)];rfl
  obtain⟨h1,h2⟩:=ih (by omega);rw[htk,wO,EG,so];generalize l[k]=n
  by_cases hn:0<n
  ·rw[if_pos hn];refine⟨fun h=>by omega,fun h=> ?_⟩;obtain⟨a,b⟩:=h1 (by omega);rw[a,b,Nat.max_eq_right (by omega)];omega
  ·rw[if_neg hn,show n=0 by omega];refine⟨fun h=> ?_,fun h=> ?_⟩
   ·obtain⟨a,b⟩:=h1 (by omega);rw[a,b];exact⟨rfl,rfl⟩
   ·obtain⟨a,b⟩:=h2 (by omega);rw[Nat.max_eq_left (by omega)];omega
theorem FM (l:List Nat):(usedL l=0∨usedL l=1∧l.sum=1)↔¬ (1<usedL l∨1<longL l):=by
 have:=FL l l.length (Nat.le_refl _);rw[cI] at this;obtain⟨h1,h2⟩:=this
 constructor
 ·rintro(h | ⟨h,hs⟩)
  ·have:=h1 h;omega
  ·have:=h2 h;omega
 ·intro h
  rcases(show usedL l=0∨usedL l=1 by omega) with h3 | h3
  ·exact .inl h3
  ·have:=h2 h3;exact .inr ⟨h3,by omega⟩
def dt (full lone:Bool):Nat:=if full then(if lone then 1 else 0) else 2
def m5 (r:Nat ⊕ List (List Nat)) (w0 w':World) (F:SProp) (e:Ending):Prop:=
 match r with
 | .inl er=>er≠0∧e= .returned (.tuple #[.slice none 0 0,.int .i64 er])∧St w0 w' F
 | .inr W=>∃ v,e= .returned (.tuple #[v,.int .i64 0])∧St w0 w' (own 9 1 v W.length (W.map aD)*F)
theorem m6 {w0 w:World} {F:SProp} (h:St w0 w F) (l:List Nat) (full lone:Bool) (hl:l.length≤900) (hl2:∀ n∈l,n≤1000) {v:Value} (hv:Stb w0 F (fun w=>Reads w 1 v l.length (nvs l))):
  Calls Tryz.prog 114 #[v,.bool full,.bool lone] w fun e w'=>m5 (bM l (dt full lone)) w0 w' F e:=by
 have hlen:(iP l).length=l.length:=by simp [iP]
 have CV:=Dj h (iP l) (v:=v) (by rw[hlen,EF];exact hv) (by omega);have CF:=rW (iP l);have hW:bM l (dt full lone)=if(bL (iP l)).2.2≠0 then .inl (bL (iP l)).2.2 else if(bL (iP l)).2.1=false∧(dt full lone=0∨dt full lone=1∧(1<usedL l∨1<longL l)) then .inl 3 else .inr (bL (iP l)).1:=rfl
 have HW:=ac hW;clear hW;obtain⟨a1,c1,rfl⟩:=(hv w h).sub;generalize bL (iP l)=R at*
 obtain⟨W,fu,er⟩:=R;simp only at CV CF HW;have HC:=ac CV;clear CV;have HV:=ac hv;clear hv;have H:=ac h;clear h
 rcases CF with ⟨her,rfl⟩ | ⟨l',hl',hok,h30,hE⟩
 ·have he':(er:Int)≠0:=by omega
  go_enter Tryz.func114,Tryz.ntmps114;go_wp2_with fail;refine HC.out.mono ?_;rintro e w2 ⟨v2,rfl,h2⟩;obtain⟨a2,c2,rfl⟩:=h2.reads.sub;have H2:=ac h2;clear h2;go_wp2_with fail;go_ret2;rw[HW.out,if_pos her];exact⟨her,rfl,H2.out.right⟩
 have hWW:er=0:=by
  injection hE with e1 e2
  injection e2 with e2 e3
 subst hWW;rw[if_neg (by decide)] at HW;clear hE hok h30 hl';have AL:=ac (FM l);have hsl:∀ k,k≤l.length→(l.take k).sum≤1000*k:=by
  intro k
  induction k with
  | zero=>intro _;simp
  | succ k ih=>
   intro hk;have htk:l.take (k+1)=l.take k++[l[k]]:=by rw[fY,ai (by omega)];rfl
   have:=ih (by omega);have:=hl2 l[k] (bo _);rw[htk,so];omega
 have HSL:=ac hsl;clear hsl;go_enter Tryz.func114,Tryz.ntmps114;go_wp2_with fail;refine HC.out.mono ?_;rintro e w2 ⟨v2,rfl,h2⟩;obtain⟨a2,c2,rfl⟩:=h2.reads.sub;have H2:=ac h2;clear h2 HC H;go_wp2_with fail
 go_loopw [11,12,13] (fun vs vu vi wr=>∃ k:Nat,k≤l.length∧vi= .int .i64 k∧vu= .int .i64 (usedL (l.take k):Nat)∧vs= .int .i64 ((l.take k).sum:Nat)∧St w0 wr (own 9 1 (.slice a2 W.length c2) W.length (W.map aD)*F)) (fun _ _ vi _=>l.length-(intOf vi).toNat)
 case atStart=>exact⟨0,by omega,rfl,rfl,rfl,H2.out⟩
 case round=>
  clear H2;obtain⟨k,hk,rfl,rfl,rfl,hst⟩:=hrel
  by_cases hkn:k<l.length
  ·obtain⟨g1,o1,rfl,e1⟩:=(HV.out wr hst.right).at_ hkn;have hx:=ai hkn;have hn1:=hl2 l[k] (bo _);have hul2:=EH (l.take k);have hsk:=HSL.out k hk;rw[aJ] at hul2;have htk:l.take (k+1)=l.take k++[l[k]]:=by rw[fY,hx];rfl
   rw[nvs,au,hx] at e1;simp only[cB,nv] at e1;have HU:=ac (show usedL (l.take (k+1))=usedL (l.take k)+(if 0<l[k] then 1 else 0) by rw[htk,wO]);have HL:=ac (show(l.take (k+1)).sum=(l.take k).sum+l[k] by rw[htk,so]);clear htk hx;have HST:=ac hst;clear hst;have hk2:(k:Int)<l.length:=by omega
   generalize l[k]=n at*
   generalize usedL (l.take k)=uu at*
   generalize (l.take k).sum=ss at*
   have hss:ss≤900000:=by omega
   by_cases hn0:0<n
   ·have hn2:0<(n:Int):=by omega
    rw[if_pos hn0] at HU;clear hn0;go_wp2_with fail;exact⟨⟨k+1,by omega,by go_num,by rw[HU.out];go_num,by rw[HL.out];go_num,HST.out⟩,by simp [intOf];omega⟩
   ·have hn2:¬ 0<(n:Int):=by omega
    rw[if_neg hn0,fL] at HU;clear hn0;go_wp2_with fail;exact⟨⟨k+1,by omega,by go_num,by rw[HU.out];first | rfl | go_num,by rw[HL.out];go_num,HST.out⟩,by simp [intOf];omega⟩
  ·obtain rfl:k=l.length:=by omega
   rw[cI];have HST:=ac hst;clear hst;have good:∀ (hno:¬ (fu=false∧(dt full lone=0∨dt full lone=1∧(1<usedL l∨1<longL l)))),m5 (bM l (dt full lone)) w0 wr F (.returned (.tuple #[.slice a2 W.length c2,.int .i64 0])):=fun hno=>by
    rw[HW.out,if_neg hno];exact⟨_,rfl,HST.out⟩
   have bad:∀ (hy:fu=false∧(dt full lone=0∨dt full lone=1∧(1<usedL l∨1<longL l))),m5 (bM l (dt full lone)) w0 wr F (.returned (.tuple #[.slice none 0 0,.int .i64 3])):=fun hy=>by
    rw[HW.out,if_pos hy];exact⟨by decide,rfl,HST.out.right⟩
   have FINB:=ac good;have BADB:=ac bad;clear good bad HW;generalize hug:usedL l=uu at*
   generalize hss:l.sum=ss at*
   clear hug hss;have halt:(uu=0∨uu=1∧ss=1)∨¬ (uu=0∨uu=1∧ss=1):=Classical.em _
   rcases halt with hal | hal
   ·have hno:=AL.out.1 hal;have HN:=ac hno;clear hno
    rcases hal with rfl | ⟨rfl,rfl⟩
    all_goals
     cases full <;> cases lone <;> cases fu
     ·go_wp2_with fail;go_ret2;exact FINB.out (fun hh=>absurd hh.2 (by simp [dt]))
     ·go_wp2_with fail;go_ret2;exact FINB.out (fun hh=>absurd hh.2 (by simp [dt]))
     ·go_wp2_with fail;go_ret2;exact FINB.out (fun hh=>absurd hh.2 (by simp [dt]))
     ·go_wp2_with fail;go_ret2;exact FINB.out (fun hh=>absurd hh.2 (by simp [dt]))
     ·go_wp2_with fail;go_ret2;exact BADB.out ⟨by trivial,.inl rfl⟩
     ·go_wp2_with fail;go_ret2;exact FINB.out (fun hh=>absurd hh.1 (by simp))
     ·go_wp2_with fail;go_ret2;exact FINB.out (fun hh=>HN.out (hh.2.elim (fun h=>absurd h (by simp [dt])) (fun h=>h.2)))
     ·go_wp2_with fail;go_ret2;exact FINB.out (fun hh=>absurd hh.1 (by simp))
   ·have hyes:1<uu∨1<longL l:=Classical.byContradiction fun hc=>hal (AL.out.2 hc)
    have HY:=ac hyes;clear hyes
    by_cases hu1:uu=1
    ·subst hu1;have hs1:¬ (ss:Int)=1:=by omega
     have hs2:((ss:Int)==1)=false:=by rw[beq_eq_false_iff_ne];exact hs1
     clear hal;cases full <;> cases lone <;> cases fu
     ·go_wp2_with fail;go_ret2;exact FINB.out (fun hh=>absurd hh.2 (by simp [dt]))
     ·go_wp2_with fail;go_ret2;exact FINB.out (fun hh=>absurd hh.2 (by simp [dt]))
     ·go_wp2_with fail;go_ret2;exact FINB.out (fun hh=>absurd hh.2 (by simp [dt]))
     ·go_wp2_with fail;go_ret2;exact FINB.out (fun hh=>absurd hh.2 (by simp [dt]))
     ·go_wp2_with fail;go_ret2;exact BADB.out ⟨by trivial,.inl rfl⟩
     ·go_wp2_with fail;go_ret2;exact FINB.out (fun hh=>absurd hh.1 (by simp))
     ·go_wp2_with fail;go_ret2;exact BADB.out ⟨by trivial,.inr ⟨rfl,HY.out⟩⟩
     ·go_wp2_with fail;go_ret2;exact FINB.out (fun hh=>absurd hh.1 (by simp))
    ·have hu0:¬ (uu:Int)=0:=by omega
     have hu2:¬ (uu:Int)=1:=by omega
     have hu3:((uu:Int)==1)=false:=by rw[beq_eq_false_iff_ne];exact hu2
     have hu4:((uu:Int)==0)=false:=by rw[beq_eq_false_iff_ne];exact hu0
     clear hal hu1;cases full <;> cases lone <;> cases fu
     ·go_wp2_with fail;go_ret2;exact FINB.out (fun hh=>absurd hh.2 (by simp [dt]))
     ·go_wp2_with fail;go_ret2;exact FINB.out (fun hh=>absurd hh.2 (by simp [dt]))
     ·go_wp2_with fail;go_ret2;exact FINB.out (fun hh=>absurd hh.2 (by simp [dt]))
     ·go_wp2_with fail;go_ret2;exact FINB.out (fun hh=>absurd hh.2 (by simp [dt]))
     ·go_wp2_with fail;go_ret2;exact BADB.out ⟨by trivial,.inl rfl⟩
     ·go_wp2_with fail;go_ret2;exact FINB.out (fun hh=>absurd hh.1 (by simp))
     ·go_wp2_with fail;go_ret2;exact BADB.out ⟨by trivial,.inr ⟨rfl,HY.out⟩⟩
     ·go_wp2_with fail;go_ret2;exact FINB.out (fun hh=>absurd hh.1 (by simp))
theorem FN {w0 w:World} {F:SProp} (h:St w0 w F):Calls Tryz.prog 151 #[] w fun e w'=>∃ v,e= .returned v∧St w0 w' (own 3 1 v 19 (nvs be)*F):=by
 have h1:=h.lit (nvs be).toArray 3 19 rfl (by decide);have H1:=ac h1;clear h1 h;go_enter Tryz.func151,Tryz.ntmps151;go_wp2_with fail;go_ret;exact⟨_,rfl,H1.out⟩
def jJ (far:Bool):List (Nat × Nat):=if far then aY else bf
theorem FO {w0 w:World} {F:SProp} (h:St w0 w F) (far:Bool):Calls Tryz.prog 185 #[.bool far] w fun e w'=>∃ va vb,e= .returned (.tuple #[va,vb])∧
  St w0 w' (own 3 1 va (jJ far).length (nvs ((jJ far).map Prod.fst))*(own 3 1 vb (jJ far).length (nvs ((jJ far).map Prod.snd))*F)):=by
 have e1:nvs (aY.map Prod.fst)=nvs [1,2,3,4,5,7,9,13,17,25,33,49,65,97,129,193,257,385,513,769,1025,1537,2049,3073,4097,6145,8193,12289,16385,24577]:=by kernel_rfl
 have e2:nvs (aY.map Prod.snd)=nvs [0,0,0,0,1,1,2,2,3,3,4,4,5,5,6,6,7,7,8,8,9,9,10,10,11,11,12,12,13,13]:=by kernel_rfl
 have e3:nvs (bf.map Prod.fst)=nvs [3,4,5,6,7,8,9,10,11,13,15,17,19,23,27,31,35,43,51,59,67,83,99,115,131,163,195,227,258]:=by kernel_rfl
 have e4:nvs (bf.map Prod.snd)=nvs [0,0,0,0,0,0,0,0,1,1,1,1,2,2,2,2,3,3,3,3,4,4,4,4,5,5,5,5,0]:=by kernel_rfl
 cases far
 ·have h1:=h.lit (nvs [3,4,5,6,7,8,9,10,11,13,15,17,19,23,27,31,35,43,51,59,67,83,99,115,131,163,195,227,258]).toArray 3 29 rfl (by decide);have h2:=h1.lit (nvs [0,0,0,0,0,0,0,0,1,1,1,1,2,2,2,2,3,3,3,3,4,4,4,4,5,5,5,5,0]).toArray 3 29 rfl (by decide);have hS:(w.alloc (.cells (nvs [3,4,5,6,7,8,9,10,11,13,15,17,19,23,27,31,35,43,51,59,67,83,99,115,131,163,195,227,258]).toArray 3)).heap.size=w.heap.size+1:=by
   show(w.heap.push _).size=_;exact gr _
  rw[hS] at h2;have H2:=ac (h2.perm (af _ _ _));clear h1 h2 h hS;go_enter Tryz.func185,Tryz.ntmps185;go_wp2_with fail;go_ret2;refine⟨_,_,rfl,?_⟩;show St w0 _ (own 3 1 _ 29 (nvs (bf.map Prod.fst))*(own 3 1 _ 29 (nvs (bf.map Prod.snd))*F));rw[e3,e4];exact H2.out
 ·have h1:=h.lit (nvs [1,2,3,4,5,7,9,13,17,25,33,49,65,97,129,193,257,385,513,769,1025,1537,2049,3073,4097,6145,8193,12289,16385,24577]).toArray 3 30 rfl (by decide);have h2:=h1.lit (nvs [0,0,0,0,1,1,2,2,3,3,4,4,5,5,6,6,7,7,8,8,9,9,10,10,11,11,12,12,13,13]).toArray 3 30 rfl (by decide);have hS:(w.alloc (.cells (nvs [1,2,3,4,5,7,9,13,17,25,33,49,65,97,129,193,257,385,513,769,1025,1537,2049,3073,4097,6145,8193,12289,16385,24577]).toArray 3)).heap.size=w.heap.size+1:=by
   show(w.heap.push _).size=_;exact gr _
  rw[hS] at h2;have H2:=ac (h2.perm (af _ _ _));clear h1 h2 h hS;go_enter Tryz.func185,Tryz.ntmps185;go_wp2_with fail;go_ret2;refine⟨_,_,rfl,?_⟩;show St w0 _ (own 3 1 _ 30 (nvs (aY.map Prod.fst))*(own 3 1 _ 30 (nvs (aY.map Prod.snd))*F));rw[e1,e2];exact H2.out
theorem FP {w0 w:World} {F:SProp} (h:St w0 w F):Calls Tryz.prog 113 #[] w fun e w'=>∃ va vb,e= .returned (.tuple #[va,vb])∧St w0 w' (own 3 1 va 288 (nvs dr)*(own 3 1 vb 30 (nvs dG)*F)):=by
 have T:=fA;have H:=ac (St.own_nil 3 1 h);clear h;go_enter Tryz.func113,Tryz.ntmps113;go_wp2_with fail
 go_loopw [2,4] (fun vo vi wr=>∃ k:Nat,k≤288∧vi= .int .i64 k∧St w0 wr (own 3 1 vo k (nvs ((List.range k).map cF))*F)) (fun _ vi _=>288-(intOf vi).toNat)
 case atStart=>exact⟨0,by omega,rfl,H.out⟩
 case round=>
  clear H;obtain⟨k,hk,rfl,hst⟩:=hrel;obtain⟨ao,co,rfl⟩:=hst.reads.sub;have HST:=ac hst;clear hst
  by_cases hkn:k<288
  ·have hkn2:(k:Int)<288:=by omega
   by_cases h1:k<144
   ·have g1:¬ 144≤(k:Int):=by omega
    have g2:¬ 256≤(k:Int):=by omega
    have HX:=ac (show nvs ((List.range k).map cF)++[(8:Int)].map iv=nvs ((List.range (k+1)).map cF) by
     rw[j9,cF,if_pos (.inl h1)];simp [nvs];rfl)
    clear hkn;go_wp2_with (at_builtin;apply ag);refine on (aC T rfl _ _ rfl rfl (HST.out.drop_alloc (.cells #[.int .i64 8] 3)) rfl (gH wr 8) (dS [8]) ?_ ?_ ?_)
    ·unfold maxLen;omega
    ·omega
    intro v' w7 h9 _;rw[HX.out] at h9;obtain⟨aN,cN,rfl⟩:=h9.reads.sub;have H9:=ac h9;clear h9;go_wp2_with fail;exact⟨⟨k+1,by omega,by go_num,H9.out⟩,by simp [intOf];omega⟩
   by_cases h2:k<256
   ·have g1:144≤(k:Int):=by omega
    have g2:(k:Int)<256:=by omega
    have HX:=ac (show nvs ((List.range k).map cF)++[(9:Int)].map iv=nvs ((List.range (k+1)).map cF) by
     rw[j9,cF,if_neg (by omega),if_pos h2];simp [nvs];rfl)
    clear hkn;go_wp2_with (at_builtin;apply ag);refine on (aC T rfl _ _ rfl rfl (HST.out.drop_alloc (.cells #[.int .i64 9] 3)) rfl (gH wr 9) (dS [9]) ?_ ?_ ?_)
    ·unfold maxLen;omega
    ·omega
    intro v' w7 h9 _;rw[HX.out] at h9;obtain⟨aN,cN,rfl⟩:=h9.reads.sub;have H9:=ac h9;clear h9;go_wp2_with fail;exact⟨⟨k+1,by omega,by go_num,H9.out⟩,by simp [intOf];omega⟩
   by_cases h3:k<280
   ·have g1:144≤(k:Int):=by omega
    have g2:¬ (k:Int)<256:=by omega
    have g3:(k:Int)<280:=by omega
    have HX:=ac (show nvs ((List.range k).map cF)++[(7:Int)].map iv=nvs ((List.range (k+1)).map cF) by
     rw[j9,cF,if_neg (by omega),if_neg h2];simp [nvs];rfl)
    clear hkn;go_wp2_with (at_builtin;apply ag);refine on (aC T rfl _ _ rfl rfl (HST.out.drop_alloc (.cells #[.int .i64 7] 3)) rfl (gH wr 7) (dS [7]) ?_ ?_ ?_)
    ·unfold maxLen;omega
    ·omega
    intro v' w7 h9 _;rw[HX.out] at h9;obtain⟨aN,cN,rfl⟩:=h9.reads.sub;have H9:=ac h9;clear h9;go_wp2_with fail;exact⟨⟨k+1,by omega,by go_num,H9.out⟩,by simp [intOf];omega⟩
   ·have g1:144≤(k:Int):=by omega
    have g2:¬ (k:Int)<256:=by omega
    have g3:¬ (k:Int)<280:=by omega
    have HX:=ac (show nvs ((List.range k).map cF)++[(8:Int)].map iv=nvs ((List.range (k+1)).map cF) by
     rw[j9,cF,if_pos (.inr (by omega))];simp [nvs];rfl)
    clear hkn;go_wp2_with (at_builtin;apply ag);refine on (aC T rfl _ _ rfl rfl (HST.out.drop_alloc (.cells #[.int .i64 8] 3)) rfl (gH wr 8) (dS [8]) ?_ ?_ ?_)
    ·unfold maxLen;omega
    ·omega
    intro v' w7 h9 _;rw[HX.out] at h9;obtain⟨aN,cN,rfl⟩:=h9.reads.sub;have H9:=ac h9;clear h9;go_wp2_with fail;exact⟨⟨k+1,by omega,by go_num,H9.out⟩,by simp [intOf];omega⟩
  ·have hkn2:¬ (k:Int)<288:=by omega
   have HK:=ac (show k=288 by omega);have H2:=ac (St.own_nil 3 1 HST.out);clear HST;go_wp2_with fail
   go_loopw [3,6] (fun vo vi wr=>∃ j:Nat,j≤30∧vi= .int .i64 j∧St w0 wr (own 3 1 vo j (nvs (List.replicate j 5))*(own 3 1 (.slice ao k co) k (nvs ((List.range k).map cF))*F))) (fun _ vi _=>30-(intOf vi).toNat)
   case atStart=>exact⟨0,by omega,rfl,H2.out⟩
   case round=>
    clear H2;obtain⟨j,hj,rfl,hst⟩:=hrel;obtain⟨a1,c1,rfl⟩:=hst.reads.sub;have HST:=ac hst;clear hst
    by_cases hjn:j<30
    ·have hjn2:(j:Int)<30:=by omega
     have HX:=ac (show nvs (List.replicate j 5)++[(5:Int)].map iv=nvs (List.replicate (j+1) 5) by
      rw[ft];simp [nvs];rfl)
     go_wp2_with (at_builtin;apply ag);refine on (aC T rfl _ _ rfl rfl (HST.out.drop_alloc (.cells #[.int .i64 5] 3)) rfl (gH wr 5) (dS [5]) ?_ ?_ ?_)
     ·unfold maxLen;omega
     ·omega
     intro v' w7 h9 _;rw[HX.out] at h9;obtain⟨aN,cN,rfl⟩:=h9.reads.sub;have H9:=ac h9;clear h9;go_wp2_with fail;exact⟨⟨j+1,by omega,by go_num,H9.out⟩,by simp [intOf];omega⟩
    ·obtain rfl:j=30:=by omega
     go_wp2_with fail;go_ret2;refine⟨_,_,rfl,?_⟩;have h3:=HST.out.perm (af _ _ _);have e:=HK.out;subst e;exact h3
def jK (k:TokD):List Value:=[.int .u8 (k.lit.toNat:Int),.int .i64 k.len,.int .i64 k.dist]
def bP (l:List TokD):List Value:=l.flatMap jK
theorem FQ (l:List TokD) (k:Nat) (o:TokD) (h:l[k]? =some o) (j:Nat) (hj:j<3):(bP l)[k*3+j]? =(jK o)[j]? :=
 jD jK 3 (fun _=>rfl) l k o h j hj
theorem xx {w:World} {a:Option Addr} {cap n:Nat} {l:List TokD} (h:Reads w 3 (.slice a n cap) n (bP l)) {k:Nat} {o:TokD} (hk:l[k]? =some o):
  ∃ b off,a=some ⟨b,off,none⟩∧w.cell? ⟨b,off+k*3,none⟩=some (.int .u8 (o.lit.toNat:Int))∧w.cell? ⟨b,off+k*3+1,none⟩=some (.int .i64 o.len)∧w.cell? ⟨b,off+k*3+2,none⟩=some (.int .i64 o.dist):=by
 obtain⟨hl,⟨e,rfl⟩ | ⟨⟨b,off,spot⟩,c,e,h1,h2,h3⟩⟩:=h
 ·have:l=[]:=by
   cases l with
   | nil=>rfl
   | cons p l=>simp [bP,jK] at hl
  simp [this] at hk
 ·cases e;have g:=fun j hj=>FQ l k o hk j hj
  have h00:∃ u,(bP l)[0]? =some u:=by
   have:k<l.length:=(dJ.1 hk).1;cases l with
   | nil=>simp at this
   | cons p l=>exact⟨_,rfl⟩
  obtain⟨u0,hu0⟩:=h00;have hspot:spot=none:=by simpa [Addr.add] using World.cell?_spot (h3 0 u0 hu0)
  subst hspot;refine⟨b,off,rfl,?_,?_,?_⟩
  ·have:=h3 _ _ ((g 0 (by decide)).trans rfl);rw[Addr.add_lit] at this;exact this
  ·have:=h3 _ _ ((g 1 (by decide)).trans rfl);rw[Addr.add_lit] at this;exact this
  ·have:=h3 _ _ ((g 2 (by decide)).trans rfl);rw[Addr.add_lit] at this;exact this
theorem it {P:Program} {fn:Func} {R:Ending→World→Prop} {x u v:Nat} {ty e:TypeId} {cs:Array Value} {fr:Nat × Nat} {b:Nat} {a:Act} {w:World} {d:TypeDesc} (h:fn.results=#[.cell x ty,.tmp u,.tmp v])
  (hx:a.tmps.getD x undef= .pointer (some ⟨b,0,none⟩)) (hg:w.heap[b]? =some (.cells cs e fr)) (hu:P.underlying ty=some d) (hd:(match d with | .struct _ | .array _ _=>true | _=>false)=true) (hi:(P.info? ty).map (·.size)=some cs.size)
  (hf:a.defers=[]) (hR:R (.returned (.tuple #[.agg cs,a.tmps.getD u undef,a.tmps.getD v undef])) w):bodyPost P fn R .ret a w:=by
 refine⟨hf,_,?_,hR⟩;have hx':a.tmps[x]?.getD undef= .pointer (some ⟨b,0,none⟩):=by simpa using hx
 simp [results,h,hx',asAddr,run_loadVar_row w b e ty cs fr d hg hu hd hi]
theorem cH {P:Program} {fn:Func} {R:Ending→World→Prop} {x u:Nat} {ty e:TypeId} {cs:Array Value} {fr:Nat × Nat} {b:Nat} {a:Act} {w:World} {d:TypeDesc} (h:fn.results=#[.cell x ty,.tmp u])
  (hx:a.tmps.getD x undef= .pointer (some ⟨b,0,none⟩)) (hg:w.heap[b]? =some (.cells cs e fr)) (hu:P.underlying ty=some d) (hd:(match d with | .struct _ | .array _ _=>true | _=>false)=true) (hi:(P.info? ty).map (·.size)=some cs.size)
  (hf:a.defers=[]) (hR:R (.returned (.tuple #[.agg cs,a.tmps.getD u undef])) w):bodyPost P fn R .ret a w:=by
 refine⟨hf,_,?_,hR⟩;have hx':a.tmps[x]?.getD undef= .pointer (some ⟨b,0,none⟩):=by simpa using hx
 simp [results,h,hx',asAddr,run_loadVar_row w b e ty cs fr d hg hu hd hi]
def bB (sb:ByteArray) (p:Nat) (vo:Value) (most:Int):Array Value:=#[.string sb,.int .i64 (p:Int),vo,.int .i64 most]
def gI:Array Value:=#[.string ⟨#[]⟩,.int .i64 0,.slice none 0 0,.int .i64 0]
theorem m9 {w0 w:World} {F:SProp} (h:St w0 w F) {t:List Nat} (ht:Bit t) (hl:t.length≤1000000000) {p:Nat} (hp:p≤t.length) (n:Nat) (hn:n≤31) {ao:Option Addr} {no co:Nat} {most:Int} {sb:ByteArray} (hsb:sb=⟨(tx t).toArray⟩) {j:Int} (hj:j=n):
  Calls Tryz.prog 111 #[.agg (bB sb p (.slice ao no co) most),.int .i64 j] w fun e w'=>
   e= .returned (.tuple #[.agg (bB sb (if t.length<p+n then p else p+n) (.slice ao no co) most),.int .i64 (if t.length<p+n then 0 else vl t p n:Nat),.int .i64 (if t.length<p+n then 2 else 0:Nat)])∧St w0 w' F:=by
 subst hj;obtain⟨x,y,z,hrd⟩:∃ x y z,gw t true p (n:Nat)=(x,y,z):=⟨_,_,_,rfl⟩;have hxyz:y=(if t.length<p+n then p else p+n)∧x=(if t.length<p+n then 0 else vl t p n)∧z=(if t.length<p+n then 2 else 0):=by
  rw[gw,if_neg (by omega),gq] at hrd
  split at hrd
  ·rename_i hc;rw[if_pos hc,if_pos hc,if_pos hc];cases hrd;exact⟨rfl,rfl,rfl⟩
  ·rename_i hc;rw[if_neg hc,if_neg hc,if_neg hc];cases hrd;exact⟨rfl,rfl,rfl⟩
 have hx32:x<2147483648:=by
  rw[hxyz.2.1]
  split
  ·decide
  ·have h1:=eH true (fun i=>t.getD (p+i) 0) (fun i=>ht.getD _) n;have h2:2^n≤2^31:=dX (by decide) hn;exact kp h1 h2
 rw[← hxyz.1,← hxyz.2.1,← hxyz.2.2];have HRD:=ac (fun w=>((tI ht p (n:Nat) true w hp hl rfl hsb).mono fun e w' h=>(⟨by rw[hrd] at h;exact h.1,h.2.symm⟩:e= .returned (.tuple #[.int .u32 (x:Int),.int .i64 (y:Int),.int .i64 (z:Int)])∧w'=w)));have h1:=(h.alloc (.cells (bB sb p (.slice ao no co) most) 153)).alloc (.cells gI 153);have hsz:(w.alloc (.cells (bB sb p (.slice ao no co) most) 153)).heap.size=w.heap.size+1:=by
  show(w.heap.push _).size=_;exact gr _
 rw[hsz] at h1;unfold bB gI at h1;clear hrd hxyz h hsz hsb;have H1:=ac h1;clear h1;unfold bB;go_enter Tryz.func111,Tryz.ntmps111;go_upto_region 1 with (fail)
 have h1:=H1.out;clear H1;generalize hb0:w.heap.size=b0 at*
 generalize hb1:b0+1=b1 at*
 generalize hW:(w.alloc (.cells #[.string sb,.int .i64 (p:Int),(.slice ao no co),.int .i64 most] 153)).alloc (.cells #[.string ⟨#[]⟩,.int .i64 0,.slice none 0 0,.int .i64 0] 153)=W at*
 have hne:¬ b0=b1:=by omega
 have hne':¬ b1=b0:=by omega
 clear hb0 hb1 hW;have c0:=h1.right.cell 0 rfl;have c1:=h1.right.cell 1 rfl;have g1:=h1.right.free 1;have h3:=(h1.perm (af _ _ _)).set 1 (.int .i64 (y:Int));have HQ:=ac (h3.perm (af _ _ _));clear h1 h3;go_wp2_with fail;refine(HRD.out _).mono ?_;rintro e w2 ⟨rfl,rfl⟩;go_upto_region 3 with (fail)
 clear c0 c1 g1;generalize w2.setCell ⟨b0,1,none⟩ (.int .i64 (y:Int))=W2 at*
 have h4:St w0 W2 (blk b1 (.cells #[.string ⟨#[]⟩,.int .i64 0,.slice none 0 0,.int .i64 0] 153)*(blk b0 (.cells #[.string sb,.int .i64 (y:Int),(.slice ao no co),.int .i64 most] 153)*F)):=HQ.out;clear HQ;have c0:=h4.right.cell 0 rfl;have c1:=h4.right.cell 1 rfl;have c2:=h4.right.cell 2 rfl;have c3:=h4.right.cell 3 rfl;have r0:=h4.cell 0 rfl;have r1:=h4.cell 1 rfl;have r2:=h4.cell 2 rfl;have r3:=h4.cell 3 rfl;have s0:=h4.free 0;have s1:=h4.free 1;have s2:=h4.free 2;have s3:=h4.free 3;have HF:=ac ((((h4.set 0 (.string sb)).set 1 (.int .i64 (y:Int))).set 2 (.slice ao no co)).set 3 (.int .i64 most));clear h4;have hxw:wrap64 (x:Int)=x:=by unfold wrap64;omega
 go_wp2_with fail;refine it rfl rfl HF.out.at_ Tryz.underlying153 rfl (by show _=some 4;kernel_rfl) rfl ?_;exact⟨rfl,HF.out.right.right⟩
theorem sp {w0 w:World} {F:SProp} (h:St w0 w F) {t:List Nat} (ht:Bit t) (hl:t.length≤1000000000) {p:Nat} (hp:p≤t.length) {W:List (List Nat)} (hb:∀ v∈W,Bit v) (hW:W.length≤100000) {vw:Value} (hv:Stb w0 F (fun w=>Reads w 1 vw W.length (W.map aD))) {ao:Option Addr} {no co:Nat} {most:Int} {sb:ByteArray} (hsb:sb=⟨(tx t).toArray⟩):
  Calls Tryz.prog 149 #[.agg (bB sb p (.slice ao no co) most),vw] w fun e w'=>∃ (z:Int) (x p':Nat),
   e= .returned (.tuple #[.agg (bB sb p' (.slice ao no co) most),.int .i64 z,.int .i64 (x:Nat)])∧uM (bG W [] (t.drop p)) p z x p'∧St w0 w' F:=by
 have h1:=(h.alloc (.cells (bB sb p (.slice ao no co) most) 153)).alloc (.cells gI 153);have hsz:(w.alloc (.cells (bB sb p (.slice ao no co) most) 153)).heap.size=w.heap.size+1:=by
  show(w.heap.push _).size=_;exact gr _
 rw[hsz] at h1;unfold bB gI at h1;obtain⟨aw,cw,rfl⟩:=(hv w h).sub;obtain⟨z,x,y,hzx,hy,hval⟩:∃ (z:Int) (x y:Nat),uM (bG W [] (t.drop p)) p z x y∧True∧oA (bG W [] (t.drop p)) p= .tuple #[.int .i64 z,.int .i64 (y:Int),.int .i64 (x:Int)]:=by
  rw[oA];generalize bG W [] (t.drop p)=r;obtain⟨k,r⟩:=r;cases r with
  | inl i=>exact⟨i,0,p+k,⟨rfl,rfl,rfl⟩,trivial,rfl⟩
  | inr er=>exact⟨0,er,p+k,⟨rfl,rfl⟩,trivial,rfl⟩
 have HRD:=ac (fun w (h:St w0 w F)=>(by have:=CI (hv w h) hb ht p hp hl hW;rw[hval,← hsb] at this;exact this:Calls Tryz.prog 184 #[.slice aw W.length cw,.string sb,.int .i64 p] w fun e w'=>e= .returned (.tuple #[.int .i64 z,.int .i64 (y:Int),.int .i64 (x:Int)])∧w'=w));have HZX:=ac hzx;clear hsz hsb hzx hy hval h hv;have H1:=ac h1;clear h1;unfold bB;go_enter Tryz.func149,Tryz.ntmps149;go_upto_region 1 with (fail)
 have h1:=H1.out;clear H1;generalize hb0:w.heap.size=b0 at*
 generalize hb1:b0+1=b1 at*
 generalize hW:(w.alloc (.cells #[.string sb,.int .i64 (p:Int),(.slice ao no co),.int .i64 most] 153)).alloc (.cells #[.string ⟨#[]⟩,.int .i64 0,.slice none 0 0,.int .i64 0] 153)=Ww at*
 have hne:¬ b0=b1:=by omega
 have hne':¬ b1=b0:=by omega
 clear hb0 hb1 hW;have c0:=h1.right.cell 0 rfl;have c1:=h1.right.cell 1 rfl;have g1:=h1.right.free 1;have HRF:=ac (HRD.out _ h1.right.right);clear HRD;have h3:=(h1.perm (af _ _ _)).set 1 (.int .i64 (y:Int));have HQ:=ac (h3.perm (af _ _ _));clear h1 h3;go_wp2_with fail;refine HRF.out.mono ?_;rintro e w2 ⟨rfl,rfl⟩;go_upto_region 3 with (fail)
 clear HRF;clear c0 c1 g1;generalize w2.setCell ⟨b0,1,none⟩ (.int .i64 (y:Int))=W2 at*
 have h4:St w0 W2 (blk b1 (.cells #[.string ⟨#[]⟩,.int .i64 0,.slice none 0 0,.int .i64 0] 153)*(blk b0 (.cells #[.string sb,.int .i64 (y:Int),(.slice ao no co),.int .i64 most] 153)*F)):=HQ.out;clear HQ;have c0:=h4.right.cell 0 rfl;have c1:=h4.right.cell 1 rfl;have c2:=h4.right.cell 2 rfl;have c3:=h4.right.cell 3 rfl;have r0:=h4.cell 0 rfl;have r1:=h4.cell 1 rfl;have r2:=h4.cell 2 rfl;have r3:=h4.cell 3 rfl;have s0:=h4.free 0;have s1:=h4.free 1;have s2:=h4.free 2;have s3:=h4.free 3;have HF:=ac ((((h4.set 0 (.string sb)).set 1 (.int .i64 (y:Int))).set 2 (.slice ao no co)).set 3 (.int .i64 most));clear h4;go_wp2_with fail;refine it rfl rfl HF.out.at_ Tryz.underlying153 rfl (by show _=some 4;kernel_rfl) rfl ?_;exact⟨z,x,y,rfl,HZX.out,HF.out.right.right⟩
theorem FR (far:Bool):∀ b∈jJ far,b.1≤100000∧b.2≤13:=by cases far <;> decide
theorem aP {w0 w:World} {b:Nat} {c:Array Value} {e:TypeId} {F:SProp} (h:St w0 w (blk b (.cells c e)*F)) (hc:c.size=4) (v0 v1 v2 v3:Value):
  St w0 ((((w.setCell ⟨b,0,none⟩ v0).setCell ⟨b,1,none⟩ v1).setCell ⟨b,2,none⟩ v2).setCell ⟨b,3,none⟩ v3) (blk b (.cells #[v0,v1,v2,v3] e)*F):=by
 have h1:=(((h.set 0 v0).set 1 v1).set 2 v2).set 3 v3;obtain⟨l⟩:=c
 match l,hc with
 | [a,b',c',d],_=>exact h1
theorem FS {w0 w:World} {F:SProp} (h:St w0 w F) {t:List Nat} (ht:Bit t) (hl:t.length≤1000000000) {p:Nat} (hp:p≤t.length) (i:Nat) (hi:i≤100000) (far:Bool) {ao:Option Addr} {no co:Nat} {most:Int} {sb:ByteArray} (hsb:sb=⟨(tx t).toArray⟩):
  Calls Tryz.prog 150 #[.agg (bB sb p (.slice ao no co) most),.int .i64 i,.bool far] w fun e w'=>∃ (z:Int) (x p':Nat),
   e= .returned (.tuple #[.agg (bB sb p' (.slice ao no co) most),.int .i64 z,.int .i64 (x:Nat)])∧wN (dd t (jJ far) i p) p z x p'∧p'≤t.length∧St w0 w' F:=by
 have h1:=(h.alloc (.cells (bB sb p (.slice ao no co) most) 153)).alloc (.cells gI 153);have hsz:(w.alloc (.cells (bB sb p (.slice ao no co) most) 153)).heap.size=w.heap.size+1:=by
  show(w.heap.push _).size=_;exact gr _
 rw[hsz] at h1;have HNUM:=ac (fun(w:World) (F:SProp) (h:St w0 w F) (n:Nat) (hn:n≤31)=>m9 h ht hl hp n hn (ao:=ao) (no:=no) (co:=co) (most:=most) hsb (j:=(n:Int)) rfl);obtain⟨T,hT⟩:∃ T,T=jJ far:=⟨_,rfl⟩;have hok:∀ b∈T,b.1≤100000∧b.2≤13:=by rw[hT];exact FR far
 have HFR:=ac (fun(w:World) (F:SProp) (h:St w0 w F)=>(by rw[hT];exact FO h far:Calls Tryz.prog 185 #[.bool far] w fun e w'=>∃ va vb,e= .returned (.tuple #[va,vb])∧
  St w0 w' (own 3 1 va T.length (nvs (T.map Prod.fst))*(own 3 1 vb T.length (nvs (T.map Prod.snd))*F))))
 rw[← hT];unfold bB gI at h1;clear h hsz hsb hT;have H1:=ac h1;clear h1;unfold bB at HNUM ⊢;go_enter Tryz.func150,Tryz.ntmps150;go_upto_region 1 with (fail)
 have h1:=H1.out;clear H1;generalize hb0:w.heap.size=b0 at*
 generalize hb1:b0+1=b1 at*
 generalize hW:(w.alloc (.cells #[.string sb,.int .i64 (p:Int),.slice ao no co,.int .i64 most] 153)).alloc (.cells #[.string ⟨#[]⟩,.int .i64 0,.slice none 0 0,.int .i64 0] 153)=W at*
 have hne:¬ b0=b1:=by omega
 have hne':¬ b1=b0:=by omega
 clear hb0 hb1 hW;have H1:=ac h1;clear h1;go_wp2_with fail;refine(HFR.out _ _ H1.out).mono ?_;rintro e w2 ⟨va,vb,rfl,h2⟩;obtain⟨aa,ca,rfl⟩:=h2.reads.sub;obtain⟨ab,cb,rfl⟩:=h2.right.reads.sub
 by_cases hiT:i<T.length
 ·have hx:=ai hiT;obtain⟨b1',b2'⟩:=hok T[i] (bo _);have hy:(nvs (T.map Prod.fst))[i]? =some (nv T[i].1):=by rw[nvs,au,au,hx];rfl
  have hz:(nvs (T.map Prod.snd))[i]? =some (nv T[i].2):=by rw[nvs,au,au,hx];rfl
  have HR:=ac (show dd t T i p=if t.length<p+T[i].2 then .inl 2 else .inr (p+T[i].2,T[i].1+vl t p T[i].2) by rw[dd,hx]);generalize T[i].1=f at*
  generalize T[i].2=ex at*
  simp only[nv] at hy hz;obtain⟨ga,rfl⟩:=bR h2 (by omega);obtain⟨gb,rfl⟩:=bR h2.right (by omega);have hi2:¬ (T.length:Int)≤i:=by omega
  have hi3:(i:Int)<T.length:=by omega
  have z0:=h2.right.own_cell hz;have h3:=h2.right.right;have c0:=h3.right.cell 0 rfl;have c1:=h3.right.cell 1 rfl;have c2:=h3.right.cell 2 rfl;have c3:=h3.right.cell 3 rfl;have h4:=h2.perm (show _=blk b0 (.cells #[.string sb,.int .i64 (p:Int),.slice ao no co,.int .i64 most] 153)*(blk b1 (.cells #[.string ⟨#[]⟩,.int .i64 0,.slice none 0 0,.int .i64 0] 153)*(own 3 1 (.slice (some ⟨ga,0,none⟩) T.length ca) T.length (nvs (T.map Prod.fst))*(own 3 1 (.slice (some ⟨gb,0,none⟩) T.length cb) T.length (nvs (T.map Prod.snd))*F))) by ac_rfl);have HN:=ac (HNUM.out _ _ h4.drew ex (by omega));clear h2 h3 H1 HNUM hok hx hz h4;obtain⟨q,hq⟩:∃ q,q=(if t.length<p+ex then p else p+ex):=⟨_,rfl⟩;obtain⟨m,hm⟩:∃ m,m=(if t.length<p+ex then 0 else vl t p ex):=⟨_,rfl⟩;obtain⟨x,hxx⟩:∃ x,x=(if t.length<p+ex then 2 else 0):=⟨_,rfl⟩;rw[← hq,← hm,← hxx] at HN;have HQ:=ac hq;have HM:=ac hm;have HX:=ac hxx;have HY:=ac hy;clear hq hm hxx hy;go_upto_region 4 with (fail)
  go_region_with (first | (go_at_call 111;refine HN.out.mono ?_;rintro e w3 ⟨rfl,h5⟩;have d0:=h5.cell 0 rfl;have d1:=h5.cell 1 rfl;have d2:=h5.cell 2 rfl;have d3:=h5.cell 3 rfl;have f0:=h5.free 0;have f1:=h5.free 1;have f2:=h5.free 2;have f3:=h5.free 3;have H5:=ac h5;clear h5))
  all_goals
   have h6:=aP H5.out rfl (.string sb) (.int .i64 (q:Int)) (.slice ao no co) (.int .i64 most);have H6:=ac h6;clear h6 H5 HN d0 d1 d2 d3 f0 f1 f2 f3;go_upto_region 5 with (fail)
   generalize (((w3.setCell ⟨b0,0,none⟩ (.string sb)).setCell ⟨b0,1,none⟩ (.int .i64 (q:Int))).setCell ⟨b0,2,none⟩ (.slice ao no co)).setCell ⟨b0,3,none⟩ (.int .i64 most)=W4 at*
   have h7:=H6.out;have c0:=h7.cell 0 rfl;have c1:=h7.cell 1 rfl;have c2:=h7.cell 2 rfl;have c3:=h7.cell 3 rfl;have y0:=h7.right.right.own_cell HY.out;have h8:=h7.perm (af _ _ _);have r0:=h8.cell 0 rfl;have r1:=h8.cell 1 rfl;have r2:=h8.cell 2 rfl;have r3:=h8.cell 3 rfl;have s0:=h8.free 0;have s1:=h8.free 1;have s2:=h8.free 2;have s3:=h8.free 3;have HF:=ac (aP h8 rfl (.string sb) (.int .i64 (q:Int)) (.slice ao no co) (.int .i64 most)).drew;have hg1:¬ ga=b1:=St.own_ne (h8.perm (show _=blk b1 _*(own 3 1 (.slice (some ⟨ga,0,none⟩) T.length ca) T.length (nvs (T.map Prod.fst))*(blk b0 _*(own 3 1 (.slice (some ⟨gb,0,none⟩) T.length cb) T.length (nvs (T.map Prod.snd))*F))) by ac_rfl));have hg1':¬ b1=ga:=fun e=>hg1 e.symm
   clear h7 h8 H6;have hmm:m≤8192:=by
    rw[HM.out];split
    ·omega
    ·have h1:=eH true (fun i=>t.getD (p+i) 0) (fun i=>ht.getD _) ex;have h2:2^ex≤2^13:=dX (by decide) b2';have h3:vl t p ex<2^ex:=h1;omega
   have HWR:=ac (show IntKind.i64.wrap ((f:Int)+m)=((f+m:Nat):Int) by rw[IntWalk.i64_in _ (by omega)];omega);have HQT:=ac (show q≤t.length by rw[HQ.out];split <;> omega);have HNR:=ac (show wN (dd t T i p) p ((f+m:Nat):Int) x q by
    rw[HR.out]
    by_cases hc:t.length<p+ex
    ·rw[if_pos hc];exact⟨by rw[HX.out,if_pos hc],by decide⟩
    ·rw[if_neg hc];exact⟨by rw[HX.out,if_neg hc],by rw[HQ.out,if_neg hc],by rw[HM.out,if_neg hc]⟩)
   go_region
   all_goals
    clear c0 c1 c2 c3 y0 r0 r1 r2 r3 s0 s1 s2 s3;go_wp2_with fail;refine it rfl rfl HF.out.at_ Tryz.underlying153 rfl (by show _=some 4;kernel_rfl) rfl ?_;exact⟨((f+m:Nat):Int),x,q,by rw[← HWR.out];rfl,HNR.out,HQT.out,HF.out.right.right.right.right⟩
 ·have HR:=ac (show dd t T i p= .inl 6 by rw[dd,bg (by omega)]);have hi2:(T.length:Int)≤i:=by omega
  have h3:=h2.right.right;have c0:=h3.right.cell 0 rfl;have c1:=h3.right.cell 1 rfl;have c2:=h3.right.cell 2 rfl;have c3:=h3.right.cell 3 rfl;have r0:=h3.cell 0 rfl;have r1:=h3.cell 1 rfl;have r2:=h3.cell 2 rfl;have r3:=h3.cell 3 rfl;have s0:=h3.free 0;have s1:=h3.free 1;have s2:=h3.free 2;have s3:=h3.free 3;have HF:=ac (aP h3 rfl (.string sb) (.int .i64 (p:Int)) (.slice ao no co) (.int .i64 most));clear h2 h3 H1 HNUM hok;go_wp2_with fail;refine it rfl rfl HF.out.at_ Tryz.underlying153 rfl (by show _=some 4;kernel_rfl) rfl ?_;exact⟨0,6,p,rfl,by rw[HR.out];exact⟨rfl,by decide⟩,hp,HF.out.right.right⟩
theorem xy {t:List Nat} (ht:Bit t) {l:List (Nat × Nat)} (hl:∀ b∈l,b.1≤100000∧b.2≤13) {i p q d:Nat} (h:dd t l i p= .inr (q,d)):d≤200000:=by
 rw[dd] at h;cases e:l[i]? with
 | none=>rw[e] at h;cases h
 | some b=>
  rw[e] at h;simp only at h;have h1:=hl b (aG e)
  split at h
  ·cases h
  ·have h2:=(Prod.mk.inj (Sum.inr.inj h)).2;have h3:vl t p b.2<2^b.2:=eH true (fun i=>t.getD (p+i) 0) (fun i=>ht.getD _) b.2;have h4:2^b.2≤2^13:=dX (by decide) h1.2;omega
theorem xz {w0 w:World} {F:SProp} {t:List Nat} (ht:Bit t) (hl:t.length≤1000000000) {p:Nat} (hp:p≤t.length) {A B:List (List Nat)} (hbA:∀ v∈A,Bit v) (hbB:∀ v∈B,Bit v) (hA:A.length≤900) (hB:B.length≤900)
  {out:List UInt8} {most:Nat} (hom:out.length≤most) (hm:most≤10000000000000) {ao:Option Addr} {co:Nat} (h:St w0 w (own 5 1 (.slice ao out.length co) (out.length) (out.map bv)*F)) {va vb:Value} (hva:Stb w0 F (fun w=>Reads w 1 va A.length (A.map aD))) (hvb:Stb w0 F (fun w=>Reads w 1 vb B.length (B.map aD))) {sb:ByteArray} (hsb:sb=⟨(tx t).toArray⟩):
  Calls Tryz.prog 115 #[.agg (bB sb p (.slice ao out.length co) most),va,vb] w fun e w'=>∃ (x p':Nat) (out':List UInt8) (ao':Option Addr) (co':Nat),
   e= .returned (.tuple #[.agg (bB sb p' (.slice ao' out'.length co') most),.int .i64 (x:Nat)])∧rX (dH t A B most (t.length+1-p) p out) x p' out'∧(x=0→p'≤t.length)∧out'.length≤most∧St w0 w' (own 5 1 (.slice ao' out'.length co') out'.length (out'.map bv)*F):=by
 have T:=eh;have h1:=(h.alloc (.cells (bB sb p (.slice ao out.length co) most) 153)).alloc (.cells gI 153);have hsz:(w.alloc (.cells (bB sb p (.slice ao out.length co) most) 153)).heap.size=w.heap.size+1:=by
  show(w.heap.push _).size=_;exact gr _
 rw[hsz] at h1;obtain⟨aa,ca,rfl⟩:=(hva w h.right).sub;obtain⟨ab,cb,rfl⟩:=(hvb w h.right).sub;have HNXA:=ac (fun(w:World) (G:SProp) (h:St w0 w G) (hv:Stb w0 G (fun w=>Reads w 1 (.slice aa A.length ca) A.length (A.map aD))) (q:Nat) (hq:q≤t.length) (ao:Option Addr) (no co:Nat)=>sp h ht hl hq hbA (by omega) hv (ao:=ao) (no:=no) (co:=co) (most:=(most:Int)) hsb);have HNXB:=ac (fun(w:World) (G:SProp) (h:St w0 w G) (hv:Stb w0 G (fun w=>Reads w 1 (.slice ab B.length cb) B.length (B.map aD))) (q:Nat) (hq:q≤t.length) (ao:Option Addr) (no co:Nat)=>sp h ht hl hq hbB (by omega) hv (ao:=ao) (no:=no) (co:=co) (most:=(most:Int)) hsb);have HNBR:=ac (fun(w:World) (G:SProp) (h:St w0 w G) (q:Nat) (hq:q≤t.length) (i:Nat) (hi:i≤100000) (far:Bool) (ao:Option Addr) (no co:Nat)=>FS h ht hl hq i hi far (ao:=ao) (no:=no) (co:=co) (most:=(most:Int)) hsb);have HLEL:=ac (fun(i p q d:Nat)=>xy ht oX (i:=i) (p:=p) (q:=q) (d:=d));have HLED:=ac (fun(i p q d:Nat)=>xy ht oW (i:=i) (p:=p) (q:=q) (d:=d));have HPOS:=ac (fun(i p q d:Nat)=>EM (t:=t) (i:=i) (p:=p) (q:=q) (d:=d));have HVA:=ac hva;have HVB:=ac hvb;generalize hRES:dH t A B most (t.length+1-p) p out=RES at*
 have HRES:=ac hRES;clear hRES;unfold bB gI at h1;clear h hsz hsb hva hvb;have H1:=ac h1;clear h1;unfold bB at HNXA HNXB HNBR ⊢;go_enter Tryz.func115,Tryz.ntmps115;go_upto_region 1 with (fail)
 have h1:=H1.out;clear H1;generalize hb0:w.heap.size=b0 at*
 generalize hb1:b0+1=b1 at*
 generalize hWW:(w.alloc (.cells #[.string sb,.int .i64 (p:Int),.slice ao out.length co,.int .i64 (most:Int)] 153)).alloc (.cells #[.string ⟨#[]⟩,.int .i64 0,.slice none 0 0,.int .i64 0] 153)=Ww at*
 have hne:¬ b0=b1:=by omega
 have hne':¬ b1=b0:=by omega
 clear hb0 hb1 hWW;have H2:=ac (h1.perm (show _=blk b0 (.cells #[.string sb,.int .i64 (p:Int),.slice ao out.length co,.int .i64 (most:Int)] 153)*(own 5 1 (.slice ao out.length co) (out.length) (out.map bv)*(blk b1 (.cells #[.string ⟨#[]⟩,.int .i64 0,.slice none 0 0,.int .i64 0] 153)*F)) by ac_rfl));clear h1;go_wp2_with fail
 go_loopg [7] (t.length+1-p) (fun g u wr=>∃ (q:Nat) (o:List UInt8) (aj:Option Addr) (cj:Nat),t.length+1≤g+q∧o.length≤most∧dH t A B most g q o=RES∧q≤t.length∧St w0 wr (blk b0 (.cells #[.string sb,.int .i64 (q:Int),.slice aj o.length cj,.int .i64 (most:Int)] 153)*(own 5 1 (.slice aj o.length cj) (o.length) (o.map bv)*(blk b1 (.cells #[.string ⟨#[]⟩,.int .i64 0,.slice none 0 0,.int .i64 0] 153)*F))))
 case atStart=>exact⟨p,out,ao,co,by omega,hom,HRES.out,hp,H2.out⟩
 case round=>
  clear H2 HRES;obtain⟨q,o,aj,cj,hg,hol,hres,hq,hst⟩:=hrel;obtain⟨g,rfl⟩:∃ g,gk=g+1:=⟨gk-1,by omega⟩;rw[dH,fG] at hres;have HG:=ac hg;clear hg;have c0:=hst.cell 0 rfl;have c1:=hst.cell 1 rfl;have c2:=hst.cell 2 rfl;have c3:=hst.cell 3 rfl;have hlen:=ot A (t.drop q) [];have hdl:(t.drop q).length=t.length-q:=bH;have C:=HNXA.out wr _ hst (fun w h=>HVA.out w h.right.right.right) q hq aj o.length cj;generalize bG A [] (t.drop q)=r at*
  obtain⟨k,r⟩:=r;have hk1:q+k≤t.length:=by have:=hlen.2.1;simp only[bD,hdl] at this;omega
  have HC:=ac C;clear C hst hdl;have HRS:=ac hres;clear hres;go_wp2_with fail;refine HC.out.mono ?_;rintro e w2 ⟨z,x,p1,rfl,hrd,h3⟩;have hA1:=h3.alloc (.cells #[.string sb,.int .i64 (p1:Int),.slice aj o.length cj,.int .i64 (most:Int)] 153);clear h3 c0 c1 c2 c3 HC;go_upto_region 2 with (fail)
  generalize w2.heap.size=bt at*
  generalize w2.alloc (.cells #[.string sb,.int .i64 (p1:Int),.slice aj o.length cj,.int .i64 (most:Int)] 153)=W3 at*
  cases r with
  | inr er=>
   have her:=hlen.2.2.2.2 er rfl;obtain⟨hp1,hx⟩:=hrd;simp only at hx HRS;subst hx;have hx2:¬ (x:Int)=0:=by omega
   clear hlen hp1 hk1;have hB9:=hA1.perm (show _=blk b1 (.cells #[.string ⟨#[]⟩,.int .i64 0,.slice none 0 0,.int .i64 0] 153)*(blk bt (.cells #[.string sb,.int .i64 (p1:Int),.slice aj o.length cj,.int .i64 (most:Int)] 153)*(blk b0 (.cells #[.string sb,.int .i64 (q:Int),.slice aj o.length cj,.int .i64 (most:Int)] 153)*(own 5 1 (.slice aj o.length cj) (o.length) (o.map bv)*F))) by ac_rfl);have hS9:=hB9.perm (af _ _ _);have s0:=hS9.cell 0 rfl;have s1:=hS9.cell 1 rfl;have s2:=hS9.cell 2 rfl;have s3:=hS9.cell 3 rfl;have r0:=hB9.cell 0 rfl;have r1:=hB9.cell 1 rfl;have r2:=hB9.cell 2 rfl;have r3:=hB9.cell 3 rfl;have rf0:=hB9.free 0;have rf1:=hB9.free 1;have rf2:=hB9.free 2;have rf3:=hB9.free 3;have HF:=ac (aP hB9 rfl (.string sb) (.int .i64 (p1:Int)) (.slice aj o.length cj) (.int .i64 (most:Int)));clear hB9 hS9 hA1;go_wp2_with fail;refine cH rfl rfl HF.out.at_ Tryz.underlying153 rfl (by show _=some 4;kernel_rfl) rfl ?_;exact⟨x,p1,o,aj,cj,rfl,by rw[← HRS.out];exact⟨rfl,by omega⟩,(fun h=>by omega),hol,HF.out.right.right.right⟩
  | inl i=>
   obtain⟨hk0,hi⟩:=hlen.2.2.2.1 i rfl;obtain⟨hp1,hx,hz⟩:=hrd;subst hx hz;simp only[bD] at HRS hk0;rw[← hp1] at HRS;have HP1:=ac (show p1≤t.length by rw[hp1];exact hk1);have HQ1:=ac (show q+1≤p1 by omega);clear hlen hp1 hk1 hk0;have hbt:=hA1.perm (show _=blk b0 (.cells #[.string sb,.int .i64 (q:Int),.slice aj o.length cj,.int .i64 (most:Int)] 153)*(blk bt (.cells #[.string sb,.int .i64 (p1:Int),.slice aj o.length cj,.int .i64 (most:Int)] 153)*(own 5 1 (.slice aj o.length cj) (o.length) (o.map bv)*(blk b1 (.cells #[.string ⟨#[]⟩,.int .i64 0,.slice none 0 0,.int .i64 0] 153)*F))) by ac_rfl);have t0:=hA1.cell 0 rfl;have t1:=hA1.cell 1 rfl;have t2:=hA1.cell 2 rfl;have t3:=hA1.cell 3 rfl;have r0:=hbt.cell 0 rfl;have r1:=hbt.cell 1 rfl;have r2:=hbt.cell 2 rfl;have r3:=hbt.cell 3 rfl;have rf0:=hbt.free 0;have rf1:=hbt.free 1;have rf2:=hbt.free 2;have rf3:=hbt.free 3;have h6:=aP hbt rfl (.string sb) (.int .i64 (p1:Int)) (.slice aj o.length cj) (.int .i64 (most:Int));clear hA1 hbt;go_upto_region 5 with (fail)
   generalize (((W3.setCell ⟨b0,0,none⟩ (.string sb)).setCell ⟨b0,1,none⟩ (.int .i64 (p1:Int))).setCell ⟨b0,2,none⟩ (.slice aj o.length cj)).setCell ⟨b0,3,none⟩ (.int .i64 (most:Int))=W4 at*
   clear t0 t1 t2 t3 r0 r1 r2 r3 rf0 rf1 rf2 rf3;have h7:St w0 W4 (blk b0 (.cells #[.string sb,.int .i64 (p1:Int),.slice aj o.length cj,.int .i64 (most:Int)] 153)*(blk bt (.cells #[.string sb,.int .i64 (p1:Int),.slice aj o.length cj,.int .i64 (most:Int)] 153)*(own 5 1 (.slice aj o.length cj) (o.length) (o.map bv)*(blk b1 (.cells #[.string ⟨#[]⟩,.int .i64 0,.slice none 0 0,.int .i64 0] 153)*F)))):=h6;clear h6
   by_cases hi256:i=256
   ·subst hi256;have hres:=HRS.out;rw[if_pos rfl] at hres;have HRX:=ac hres;clear hres HRS;have hB9:=h7.perm (show _=blk b1 (.cells #[.string ⟨#[]⟩,.int .i64 0,.slice none 0 0,.int .i64 0] 153)*(blk b0 (.cells #[.string sb,.int .i64 (p1:Int),.slice aj o.length cj,.int .i64 (most:Int)] 153)*(blk bt (.cells #[.string sb,.int .i64 (p1:Int),.slice aj o.length cj,.int .i64 (most:Int)] 153)*(own 5 1 (.slice aj o.length cj) (o.length) (o.map bv)*F))) by ac_rfl);have hS9:=hB9.perm (af _ _ _);have s0:=hS9.cell 0 rfl;have s1:=hS9.cell 1 rfl;have s2:=hS9.cell 2 rfl;have s3:=hS9.cell 3 rfl;have r0:=hB9.cell 0 rfl;have r1:=hB9.cell 1 rfl;have r2:=hB9.cell 2 rfl;have r3:=hB9.cell 3 rfl;have rf0:=hB9.free 0;have rf1:=hB9.free 1;have rf2:=hB9.free 2;have rf3:=hB9.free 3;have HF:=ac (aP hB9 rfl (.string sb) (.int .i64 (p1:Int)) (.slice aj o.length cj) (.int .i64 (most:Int)));clear hB9 hS9 h7;go_wp2_with fail;refine cH rfl rfl HF.out.at_ Tryz.underlying153 rfl (by show _=some 4;kernel_rfl) rfl ?_;exact⟨0,p1,o,aj,cj,rfl,by rw[← HRX.out];exact⟨rfl,rfl,rfl⟩,(fun _=>HP1.out),hol,HF.out.right.right.right⟩
   have hi256':¬ (i:Int)=256:=by omega
   have hi256b:((i:Int)==256)=false:=by rw[beq_eq_false_iff_ne];exact hi256'
   have hres:=HRS.out;rw[if_neg hi256] at hres;clear HRS
   by_cases hlt:i<256
   ·have hlt2:(i:Int)<256:=by omega
    rw[if_pos hlt] at hres
    by_cases hlim:most≤o.length
    ·rw[if_pos hlim] at hres;have HRX:=ac hres;clear hres;have hl2:(most:Int)≤o.length:=by omega
     have hB9:=h7.perm (show _=blk b1 (.cells #[.string ⟨#[]⟩,.int .i64 0,.slice none 0 0,.int .i64 0] 153)*(blk b0 (.cells #[.string sb,.int .i64 (p1:Int),.slice aj o.length cj,.int .i64 (most:Int)] 153)*(blk bt (.cells #[.string sb,.int .i64 (p1:Int),.slice aj o.length cj,.int .i64 (most:Int)] 153)*(own 5 1 (.slice aj o.length cj) (o.length) (o.map bv)*F))) by ac_rfl);have hS9:=hB9.perm (af _ _ _);have s0:=hS9.cell 0 rfl;have s1:=hS9.cell 1 rfl;have s2:=hS9.cell 2 rfl;have s3:=hS9.cell 3 rfl;have r0:=hB9.cell 0 rfl;have r1:=hB9.cell 1 rfl;have r2:=hB9.cell 2 rfl;have r3:=hB9.cell 3 rfl;have rf0:=hB9.free 0;have rf1:=hB9.free 1;have rf2:=hB9.free 2;have rf3:=hB9.free 3;have HF:=ac (aP hB9 rfl (.string sb) (.int .i64 (p1:Int)) (.slice aj o.length cj) (.int .i64 (most:Int)));clear hB9 hS9 h7;go_wp2_with fail;refine cH rfl rfl HF.out.at_ Tryz.underlying153 rfl (by show _=some 4;kernel_rfl) rfl ?_;exact⟨8,p1,o,aj,cj,rfl,by rw[← HRX.out];exact⟨rfl,by decide⟩,(fun h=>by cases h),hol,HF.out.right.right.right⟩
    ·rw[if_neg hlim] at hres;have HRX:=ac hres;clear hres;have hl2:¬ (most:Int)≤o.length:=by omega
     have c0:=h7.cell 0 rfl;have c1:=h7.cell 1 rfl;have c2:=h7.cell 2 rfl;have c3:=h7.cell 3 rfl;have hw8:=wR (c:=i);generalize UInt8.ofNat i=ch at*
     have H7:=ac h7;clear h7;go_wp2_with (at_builtin;apply ag);refine on (aC T rfl _ _ rfl rfl ((H7.out.drop_alloc (.cells #[.int .u8 (ch.toNat:Int)] 5)).perm (show _=own 5 1 (.slice aj o.length cj) (o.length) (o.map bv)*(blk b0 (.cells #[.string sb,.int .i64 (p1:Int),.slice aj o.length cj,.int .i64 (most:Int)] 153)*(blk bt (.cells #[.string sb,.int .i64 (p1:Int),.slice aj o.length cj,.int .i64 (most:Int)] 153)*(blk b1 (.cells #[.string ⟨#[]⟩,.int .i64 0,.slice none 0 0,.int .i64 0] 153)*F))) by ac_rfl)) rfl (wP W4 ch) (gx [ch]) ?_ ?_ ?_)
     ·unfold maxLen;omega
     ·omega
     intro v' w11 h11 _;obtain⟨a7,c7,rfl⟩:=h11.reads.sub;have u2:=h11.right.cell 2 rfl;have uf2:=h11.right.free 2;have h12:=(h11.perm (af _ _ _)).set 2 (.slice a7 (o.length+1:Nat) c7);have h13:St w0 (w11.setCell ⟨b0,2,none⟩ (.slice a7 (o.length+1:Nat) c7)) (blk b0 (.cells #[.string sb,.int .i64 (p1:Int),.slice a7 (o++[ch]).length c7,.int .i64 (most:Int)] 153)*(own 5 1 (.slice a7 (o++[ch]).length c7) (o++[ch]).length ((o++[ch]).map bv)*(blk b1 (.cells #[.string ⟨#[]⟩,.int .i64 0,.slice none 0 0,.int .i64 0] 153)*F))):=by
      have e1:(o++[ch]).length=o.length+1:=by simp
      have e2:(o++[ch]).map bv=o.map bv++[ch].map bv:=by simp
      rw[e1,e2];exact((h12.perm (show _=blk bt (.cells #[.string sb,.int .i64 (p1:Int),.slice aj o.length cj,.int .i64 (most:Int)] 153)*(blk b0 (.cells #[.string sb,.int .i64 (p1:Int),.slice a7 (o.length+1) c7,.int .i64 (most:Int)] 153)*(own 5 1 (.slice a7 (o.length+1) c7) (o.length+1) (o.map bv++[ch].map bv)*(blk b1 (.cells #[.string ⟨#[]⟩,.int .i64 0,.slice none 0 0,.int .i64 0] 153)*F))) by ac_rfl)).right)
     have H13:=ac h13;clear h13 h12 h11 H7 c0 c1 c2 c3;go_wp2_with fail
     go_roundg g
     case measure=>omega
     case rel=>exact⟨p1,o++[ch],a7,c7,by have:=HG.out;have:=HQ1.out;omega,by simp;omega,HRX.out,HP1.out,H13.out⟩
   ·have hlt2:¬ (i:Int)<256:=by omega
    rw[if_neg hlt] at hres;have hsub:(i:Int)-257=((i-257:Nat):Int):=by omega
    have hnn:0≤((i-257:Nat):Int):=by omega
    have him:i-257≤100000:=by omega
    have him2:(i:Int)≤100000:=by omega
    have c0:=h7.cell 0 rfl;have c1:=h7.cell 1 rfl;have c2:=h7.cell 2 rfl;have c3:=h7.cell 3 rfl;have C:=HNBR.out W4 _ h7 p1 HP1.out (i-257) him false aj o.length cj;have C2:jJ false=bf:=rfl;rw[C2] at C;have HLN:=ac (HLEL.out (i-257) p1);have HNGE:=ac (fun q d (h:dd t bf (i-257) p1= .inr (q,d))=>oY h);generalize dd t bf (i-257) p1=r at*
    generalize i-257=im at*
    have HC:=ac C;clear C C2 h7;have HRS:=ac hres;clear hres;clear hi256 hlt;go_wp2_with fail;refine HC.out.mono ?_;rintro e w5 ⟨z,x,p2,rfl,hnr,hp2,h8⟩;have HP2:=ac hp2;clear hp2 HC c0 c1 c2 c3;have h9:=h8.perm (show _=blk bt (.cells #[.string sb,.int .i64 (p1:Int),.slice aj o.length cj,.int .i64 (most:Int)] 153)*(blk b0 (.cells #[.string sb,.int .i64 (p1:Int),.slice aj o.length cj,.int .i64 (most:Int)] 153)*(own 5 1 (.slice aj o.length cj) (o.length) (o.map bv)*(blk b1 (.cells #[.string ⟨#[]⟩,.int .i64 0,.slice none 0 0,.int .i64 0] 153)*F))) by ac_rfl);have t0:=h9.cell 0 rfl;have t1:=h9.cell 1 rfl;have t2:=h9.cell 2 rfl;have t3:=h9.cell 3 rfl;have tf0:=h9.free 0;have tf1:=h9.free 1;have tf2:=h9.free 2;have tf3:=h9.free 3;have h10:=aP h9 rfl (.string sb) (.int .i64 (p2:Int)) (.slice aj o.length cj) (.int .i64 (most:Int));clear h8 h9;go_upto_region 12 with (fail)
    generalize (((w5.setCell ⟨bt,0,none⟩ (.string sb)).setCell ⟨bt,1,none⟩ (.int .i64 (p2:Int))).setCell ⟨bt,2,none⟩ (.slice aj o.length cj)).setCell ⟨bt,3,none⟩ (.int .i64 (most:Int))=W5 at*
    clear t0 t1 t2 t3 tf0 tf1 tf2 tf3;have h10:St w0 W5 (blk bt (.cells #[.string sb,.int .i64 (p2:Int),.slice aj o.length cj,.int .i64 (most:Int)] 153)*(blk b0 (.cells #[.string sb,.int .i64 (p1:Int),.slice aj o.length cj,.int .i64 (most:Int)] 153)*(own 5 1 (.slice aj o.length cj) (o.length) (o.map bv)*(blk b1 (.cells #[.string ⟨#[]⟩,.int .i64 0,.slice none 0 0,.int .i64 0] 153)*F)))):=h10;cases r with
    | inl er=>
     obtain⟨hx,hne0⟩:=hnr;subst hx;simp only at HRS;have hx2:¬ (x:Int)=0:=by omega
     have hB9:=h10.perm (show _=blk b1 (.cells #[.string ⟨#[]⟩,.int .i64 0,.slice none 0 0,.int .i64 0] 153)*(blk bt (.cells #[.string sb,.int .i64 (p2:Int),.slice aj o.length cj,.int .i64 (most:Int)] 153)*(blk b0 (.cells #[.string sb,.int .i64 (p1:Int),.slice aj o.length cj,.int .i64 (most:Int)] 153)*(own 5 1 (.slice aj o.length cj) (o.length) (o.map bv)*F))) by ac_rfl);have hS9:=hB9.perm (af _ _ _);have s0:=hS9.cell 0 rfl;have s1:=hS9.cell 1 rfl;have s2:=hS9.cell 2 rfl;have s3:=hS9.cell 3 rfl;have r0:=hB9.cell 0 rfl;have r1:=hB9.cell 1 rfl;have r2:=hB9.cell 2 rfl;have r3:=hB9.cell 3 rfl;have rf0:=hB9.free 0;have rf1:=hB9.free 1;have rf2:=hB9.free 2;have rf3:=hB9.free 3;have HF:=ac (aP hB9 rfl (.string sb) (.int .i64 (p2:Int)) (.slice aj o.length cj) (.int .i64 (most:Int)));clear hB9 hS9 h10;go_wp2_with fail;refine cH rfl rfl HF.out.at_ Tryz.underlying153 rfl (by show _=some 4;kernel_rfl) rfl ?_;exact⟨x,p2,o,aj,cj,rfl,by rw[← HRS.out];exact⟨rfl,hne0⟩,(fun h=>by omega),hol,HF.out.right.right.right⟩
    | inr qd=>
     obtain⟨q',n⟩:=qd;obtain⟨hx,hq',hz⟩:=hnr;subst hx hq' hz;simp only at HRS;have hn2:=HLN.out p2 n rfl;have HGE1:=ac (show p1≤p2 from HNGE.out p2 n rfl);clear HLN HNGE;have HCR:=ac (show ip t B most n p2 o=match bG B [] (t.drop p2) with
      | (_,.inr e)=> .inl e
      | (k,.inl v)=>(match dd t aY v (p2+k) with
       | .inl e=> .inl e
       | .inr (q,d)=>if o.length<d then .inl 3 else if most<o.length+n then .inl 8 else .inr (q,dP d n o)) from rfl)
     generalize ip t B most n p2 o=CR at*
     have c0:=h10.cell 0 rfl;have c1:=h10.cell 1 rfl;have c2:=h10.cell 2 rfl;have c3:=h10.cell 3 rfl;have hlen:=ot B (t.drop p2) [];have hdl:(t.drop p2).length=t.length-p2:=bH;have C:=HNXB.out W5 _ h10 (fun w h=>HVB.out w h.right.right.right.right) p2 HP2.out aj o.length cj;generalize bG B [] (t.drop p2)=r at*
     obtain⟨k,r⟩:=r;have hk1:p2+k≤t.length:=by have hx1:=HP2.out;have:=hlen.2.1;simp only[bD,hdl] at this;omega
     have HC:=ac C;clear C h10 hdl;go_wp2_with fail;refine HC.out.mono ?_;rintro e w6 ⟨z,x,p3,rfl,hrd,h11⟩;clear HC c0 c1 c2 c3;have t0:=h11.cell 0 rfl;have t1:=h11.cell 1 rfl;have t2:=h11.cell 2 rfl;have t3:=h11.cell 3 rfl;have tf0:=h11.free 0;have tf1:=h11.free 1;have tf2:=h11.free 2;have tf3:=h11.free 3;have h12:=aP h11 rfl (.string sb) (.int .i64 (p3:Int)) (.slice aj o.length cj) (.int .i64 (most:Int));clear h11;go_upto_region 15 with (fail)
     generalize (((w6.setCell ⟨bt,0,none⟩ (.string sb)).setCell ⟨bt,1,none⟩ (.int .i64 (p3:Int))).setCell ⟨bt,2,none⟩ (.slice aj o.length cj)).setCell ⟨bt,3,none⟩ (.int .i64 (most:Int))=W6 at*
     clear t0 t1 t2 t3 tf0 tf1 tf2 tf3;have h12:St w0 W6 (blk bt (.cells #[.string sb,.int .i64 (p3:Int),.slice aj o.length cj,.int .i64 (most:Int)] 153)*(blk b0 (.cells #[.string sb,.int .i64 (p1:Int),.slice aj o.length cj,.int .i64 (most:Int)] 153)*(own 5 1 (.slice aj o.length cj) (o.length) (o.map bv)*(blk b1 (.cells #[.string ⟨#[]⟩,.int .i64 0,.slice none 0 0,.int .i64 0] 153)*F)))):=h12;cases r with
     | inr er=>
      have her:=hlen.2.2.2.2 er rfl;obtain⟨hp3,hx⟩:=hrd;have hcr:=HCR.out;simp only at hx hcr;subst hx;have hx2:¬ (x:Int)=0:=by omega
      clear hlen hp3 hk1 HCR;have hB9:=h12.perm (show _=blk b1 (.cells #[.string ⟨#[]⟩,.int .i64 0,.slice none 0 0,.int .i64 0] 153)*(blk bt (.cells #[.string sb,.int .i64 (p3:Int),.slice aj o.length cj,.int .i64 (most:Int)] 153)*(blk b0 (.cells #[.string sb,.int .i64 (p1:Int),.slice aj o.length cj,.int .i64 (most:Int)] 153)*(own 5 1 (.slice aj o.length cj) (o.length) (o.map bv)*F))) by ac_rfl);have hS9:=hB9.perm (af _ _ _);have s0:=hS9.cell 0 rfl;have s1:=hS9.cell 1 rfl;have s2:=hS9.cell 2 rfl;have s3:=hS9.cell 3 rfl;have r0:=hB9.cell 0 rfl;have r1:=hB9.cell 1 rfl;have r2:=hB9.cell 2 rfl;have r3:=hB9.cell 3 rfl;have rf0:=hB9.free 0;have rf1:=hB9.free 1;have rf2:=hB9.free 2;have rf3:=hB9.free 3;have HF:=ac (aP hB9 rfl (.string sb) (.int .i64 (p3:Int)) (.slice aj o.length cj) (.int .i64 (most:Int)));clear hB9 hS9 h12;go_wp2_with fail;refine cH rfl rfl HF.out.at_ Tryz.underlying153 rfl (by show _=some 4;kernel_rfl) rfl ?_;have hres:=HRS.out;rw[hcr] at hres;simp only at hres;exact⟨x,p3,o,aj,cj,rfl,by rw[← hres];exact⟨rfl,by omega⟩,(fun h=>by omega),hol,HF.out.right.right.right⟩
     | inl kk=>
      have hkk:=(hlen.2.2.2.1 kk rfl).2;obtain⟨hp3,hx,hz⟩:=hrd;subst hx hz;have hcr:=HCR.out;clear HCR;simp only at hcr;rw[← hp3] at hcr;have HP3:=ac (show p3≤t.length by rw[hp3];exact hk1);have HGE2:=ac (show p2≤p3 by omega);clear hlen hp3 hk1;have c0:=h12.cell 0 rfl;have c1:=h12.cell 1 rfl;have c2:=h12.cell 2 rfl;have c3:=h12.cell 3 rfl;have C:=HNBR.out W6 _ h12 p3 HP3.out kk (by omega) true aj o.length cj;have C2:jJ true=aY:=rfl;rw[C2] at C;have HLN:=ac (HLED.out kk p3);have HPS:=ac (HPOS.out kk p3);have HNGE:=ac (fun q d (h:dd t aY kk p3= .inr (q,d))=>oY h);generalize dd t aY kk p3=r at*
      have HC:=ac C;clear C C2 h12;have HCR:=ac hcr;clear hcr;have hkk2:kk≤900:=by omega
      go_wp2_with fail;refine HC.out.mono ?_;rintro e w7 ⟨z,x,p4,rfl,hnr,hp4,h13⟩;have HP4:=ac hp4;clear hp4 HC c0 c1 c2 c3;have t0:=h13.cell 0 rfl;have t1:=h13.cell 1 rfl;have t2:=h13.cell 2 rfl;have t3:=h13.cell 3 rfl;have tf0:=h13.free 0;have tf1:=h13.free 1;have tf2:=h13.free 2;have tf3:=h13.free 3;have h14:=aP h13 rfl (.string sb) (.int .i64 (p4:Int)) (.slice aj o.length cj) (.int .i64 (most:Int));clear h13;go_upto_region 18 with (fail)
      generalize (((w7.setCell ⟨bt,0,none⟩ (.string sb)).setCell ⟨bt,1,none⟩ (.int .i64 (p4:Int))).setCell ⟨bt,2,none⟩ (.slice aj o.length cj)).setCell ⟨bt,3,none⟩ (.int .i64 (most:Int))=W7 at*
      clear t0 t1 t2 t3 tf0 tf1 tf2 tf3;have h14:St w0 W7 (blk bt (.cells #[.string sb,.int .i64 (p4:Int),.slice aj o.length cj,.int .i64 (most:Int)] 153)*(blk b0 (.cells #[.string sb,.int .i64 (p1:Int),.slice aj o.length cj,.int .i64 (most:Int)] 153)*(own 5 1 (.slice aj o.length cj) (o.length) (o.map bv)*(blk b1 (.cells #[.string ⟨#[]⟩,.int .i64 0,.slice none 0 0,.int .i64 0] 153)*F)))):=h14;cases r with
      | inl er=>
       obtain⟨hx,hne0⟩:=hnr;subst hx;have hcr:=HCR.out;simp only at hcr;have hx2:¬ (x:Int)=0:=by omega
       have hB9:=h14.perm (show _=blk b1 (.cells #[.string ⟨#[]⟩,.int .i64 0,.slice none 0 0,.int .i64 0] 153)*(blk bt (.cells #[.string sb,.int .i64 (p4:Int),.slice aj o.length cj,.int .i64 (most:Int)] 153)*(blk b0 (.cells #[.string sb,.int .i64 (p1:Int),.slice aj o.length cj,.int .i64 (most:Int)] 153)*(own 5 1 (.slice aj o.length cj) (o.length) (o.map bv)*F))) by ac_rfl);have hS9:=hB9.perm (af _ _ _);have s0:=hS9.cell 0 rfl;have s1:=hS9.cell 1 rfl;have s2:=hS9.cell 2 rfl;have s3:=hS9.cell 3 rfl;have r0:=hB9.cell 0 rfl;have r1:=hB9.cell 1 rfl;have r2:=hB9.cell 2 rfl;have r3:=hB9.cell 3 rfl;have rf0:=hB9.free 0;have rf1:=hB9.free 1;have rf2:=hB9.free 2;have rf3:=hB9.free 3;have HF:=ac (aP hB9 rfl (.string sb) (.int .i64 (p4:Int)) (.slice aj o.length cj) (.int .i64 (most:Int)));clear hB9 hS9 h14;go_wp2_with fail;refine cH rfl rfl HF.out.at_ Tryz.underlying153 rfl (by show _=some 4;kernel_rfl) rfl ?_;have hres:=HRS.out;rw[hcr] at hres;simp only at hres;exact⟨x,p4,o,aj,cj,rfl,by rw[← hres];exact⟨rfl,hne0⟩,(fun h=>by omega),hol,HF.out.right.right.right⟩
      | inr qd=>
       obtain⟨q',d⟩:=qd;obtain⟨hx,hq',hz⟩:=hnr;subst hx hq' hz;have hcr:=HCR.out;simp only at hcr;have hd2:=HLN.out p4 d rfl;have cV:=HPS.out p4 d rfl;have HGE3:=ac (show p3≤p4 from HNGE.out p4 d rfl);clear HLN HPS HNGE HCR;have h15:=h14.perm (af _ _ _);have t0:=h14.cell 0 rfl;have t1:=h14.cell 1 rfl;have t2:=h14.cell 2 rfl;have t3:=h14.cell 3 rfl;have r0:=h15.cell 0 rfl;have r1:=h15.cell 1 rfl;have r2:=h15.cell 2 rfl;have r3:=h15.cell 3 rfl;have rf0:=h15.free 0;have rf1:=h15.free 1;have rf2:=h15.free 2;have rf3:=h15.free 3;have h16:=aP h15 rfl (.string sb) (.int .i64 (p4:Int)) (.slice aj o.length cj) (.int .i64 (most:Int));clear h14 h15;go_upto_region 21 with (fail)
       generalize (((W7.setCell ⟨b0,0,none⟩ (.string sb)).setCell ⟨b0,1,none⟩ (.int .i64 (p4:Int))).setCell ⟨b0,2,none⟩ (.slice aj o.length cj)).setCell ⟨b0,3,none⟩ (.int .i64 (most:Int))=W8 at*
       clear t0 t1 t2 t3 r0 r1 r2 r3 rf0 rf1 rf2 rf3;have h16:St w0 W8 (blk b0 (.cells #[.string sb,.int .i64 (p4:Int),.slice aj o.length cj,.int .i64 (most:Int)] 153)*(blk bt (.cells #[.string sb,.int .i64 (p4:Int),.slice aj o.length cj,.int .i64 (most:Int)] 153)*(own 5 1 (.slice aj o.length cj) (o.length) (o.map bv)*(blk b1 (.cells #[.string ⟨#[]⟩,.int .i64 0,.slice none 0 0,.int .i64 0] 153)*F)))):=h16
       by_cases hdo:o.length<d
       ·have hdo2:(o.length:Int)<d:=by omega
        rw[if_pos hdo] at hcr;have hB9:=h16.perm (show _=blk b1 (.cells #[.string ⟨#[]⟩,.int .i64 0,.slice none 0 0,.int .i64 0] 153)*(blk b0 (.cells #[.string sb,.int .i64 (p4:Int),.slice aj o.length cj,.int .i64 (most:Int)] 153)*(blk bt (.cells #[.string sb,.int .i64 (p4:Int),.slice aj o.length cj,.int .i64 (most:Int)] 153)*(own 5 1 (.slice aj o.length cj) (o.length) (o.map bv)*F))) by ac_rfl);have hS9:=hB9.perm (af _ _ _);have s0:=hS9.cell 0 rfl;have s1:=hS9.cell 1 rfl;have s2:=hS9.cell 2 rfl;have s3:=hS9.cell 3 rfl;have r0:=hB9.cell 0 rfl;have r1:=hB9.cell 1 rfl;have r2:=hB9.cell 2 rfl;have r3:=hB9.cell 3 rfl;have rf0:=hB9.free 0;have rf1:=hB9.free 1;have rf2:=hB9.free 2;have rf3:=hB9.free 3;have HF:=ac (aP hB9 rfl (.string sb) (.int .i64 (p4:Int)) (.slice aj o.length cj) (.int .i64 (most:Int)));clear hB9 hS9 h16;go_wp2_with fail;refine cH rfl rfl HF.out.at_ Tryz.underlying153 rfl (by show _=some 4;kernel_rfl) rfl ?_;have hres:=HRS.out;rw[hcr] at hres;simp only at hres;exact⟨3,p4,o,aj,cj,rfl,by rw[← hres];exact⟨rfl,by decide⟩,(fun h=>by cases h),hol,HF.out.right.right.right⟩
       have hdo2:¬ (o.length:Int)<d:=by omega
       rw[if_neg hdo] at hcr
       by_cases hlim:most<o.length+n
       ·have hl2:(most:Int)<o.length+n:=by omega
        rw[if_pos hlim] at hcr;have hB9:=h16.perm (show _=blk b1 (.cells #[.string ⟨#[]⟩,.int .i64 0,.slice none 0 0,.int .i64 0] 153)*(blk b0 (.cells #[.string sb,.int .i64 (p4:Int),.slice aj o.length cj,.int .i64 (most:Int)] 153)*(blk bt (.cells #[.string sb,.int .i64 (p4:Int),.slice aj o.length cj,.int .i64 (most:Int)] 153)*(own 5 1 (.slice aj o.length cj) (o.length) (o.map bv)*F))) by ac_rfl);have hS9:=hB9.perm (af _ _ _);have s0:=hS9.cell 0 rfl;have s1:=hS9.cell 1 rfl;have s2:=hS9.cell 2 rfl;have s3:=hS9.cell 3 rfl;have r0:=hB9.cell 0 rfl;have r1:=hB9.cell 1 rfl;have r2:=hB9.cell 2 rfl;have r3:=hB9.cell 3 rfl;have rf0:=hB9.free 0;have rf1:=hB9.free 1;have rf2:=hB9.free 2;have rf3:=hB9.free 3;have HF:=ac (aP hB9 rfl (.string sb) (.int .i64 (p4:Int)) (.slice aj o.length cj) (.int .i64 (most:Int)));clear hB9 hS9 h16;go_wp2_with fail;refine cH rfl rfl HF.out.at_ Tryz.underlying153 rfl (by show _=some 4;kernel_rfl) rfl ?_;have hres:=HRS.out;rw[hcr] at hres;simp only at hres;exact⟨8,p4,o,aj,cj,rfl,by rw[← hres];exact⟨rfl,by decide⟩,(fun h=>by cases h),hol,HF.out.right.right.right⟩
       have hl2:¬ (most:Int)<o.length+n:=by omega
       rw[if_neg hlim] at hcr;rw[hcr] at HRS;simp only at HRS;have c0:=h16.cell 0 rfl;have c1:=h16.cell 1 rfl;have c2:=h16.cell 2 rfl;have c3:=h16.cell 3 rfl;have H16:=ac h16;clear h16 hcr;go_upto_region 25 with (fail)
       clear c0 c1 c2 c3;go_wp2_with fail
       go_loopw [14] (fun vi wr=>∃ (j:Nat) (a5:Option Addr) (c5:Nat),j≤n∧vi= .int .i64 j∧St w0 wr (blk b0 (.cells #[.string sb,.int .i64 (p4:Int),.slice a5 (dP d j o).length c5,.int .i64 (most:Int)] 153)*(blk bt (.cells #[.string sb,.int .i64 (p4:Int),.slice aj o.length cj,.int .i64 (most:Int)] 153)*(own 5 1 (.slice a5 (dP d j o).length c5) ((dP d j o).length) ((dP d j o).map bv)*(blk b1 (.cells #[.string ⟨#[]⟩,.int .i64 0,.slice none 0 0,.int .i64 0] 153)*F))))) (fun vi _=>n-(intOf vi).toNat)
       case atStart=>exact⟨0,aj,cj,by omega,rfl,H16.out⟩
       case round=>
        clear H16;obtain⟨j,a5,c5,hj,rfl,hst⟩:=hrel
        by_cases hjn:j<n
        ·have hcl:=oV d j o;have HSN:=ac (EJ d j o);generalize dP d j o=o5 at*
         have c2:=hst.cell 2 rfl;have hst2:=hst.perm (show _=own 5 1 (.slice a5 o5.length c5) (o5.length) (o5.map bv)*(blk b0 (.cells #[.string sb,.int .i64 (p4:Int),.slice a5 o5.length c5,.int .i64 (most:Int)] 153)*(blk bt (.cells #[.string sb,.int .i64 (p4:Int),.slice aj o.length cj,.int .i64 (most:Int)] 153)*(blk b1 (.cells #[.string ⟨#[]⟩,.int .i64 0,.slice none 0 0,.int .i64 0] 153)*F))) by ac_rfl);obtain⟨go,rfl⟩:=bR hst2 (by omega);have hbc:=hst2.own_cell (EN o5 (i:=o5.length-d) (by omega));have hjj:(j:Int)<n:=by omega
         have hL5:StL w0 wr [own 5 1 (.slice (some ⟨go,0,none⟩) o5.length c5) (o5.length) (o5.map bv),blk b0 (.cells #[.string sb,.int .i64 (p4:Int),.slice (some ⟨go,0,none⟩) o5.length c5,.int .i64 (most:Int)] 153),blk bt (.cells #[.string sb,.int .i64 (p4:Int),.slice aj o.length cj,.int .i64 (most:Int)] 153)*(blk b1 (.cells #[.string ⟨#[]⟩,.int .i64 0,.slice none 0 0,.int .i64 0] 153)*F)]:=hst2.perm (by simp only[dj];rw[fx _ di,eG]);have HL5:=ac hL5;clear hL5 hst hst2;generalize o5.getD (o5.length-d) 0=ch at*
         have hsub:IntKind.i64.wrap ((o5.length-d:Nat):Int)=((o5.length-d:Nat):Int):=IntWalk.i64_in _ (by omega);have hod0:0≤(((o5.length-d:Nat):Nat):Int):=by omega
         have hod1:((o5.length-d:Nat):Int)<o5.length:=by omega
         have holen:o5.length≤10000000000000:=by omega
         have hsub2:((o5.length:Int)-d)=((o5.length-d:Nat):Int):=by omega
         have HCL:=ac hcl;clear hcl;have hlt9:o5.length-d<o5.length:=by omega
         generalize o5.length-d=od at*
         simp only[bv] at hbc;go_upto_region 29 with (fail)
         refine wp_region_noPanic ?_;refine gB (S:=fun w':World=>w'.cell? ⟨b0,2,none⟩=some (.slice (some ⟨go,0,none⟩) o5.length c5)) (k:=9) (by kernel_rfl) ?_;have hS:(fun w':World=>w'.cell? ⟨b0,2,none⟩=some (.slice (some ⟨go,0,none⟩) o5.length c5)) wr.drew:=c2;refine jA 0 rfl (by kernel_rfl) rfl (fun _ _ _ h=>h) (by assumption) ⟨?_,fun w=> ?_,?_⟩;rotate_left
         ·(go_simp;try with_reducible rfl)
         simp only[Act.put,sA,sZ,sS];refine gN 1 rfl (by kernel_rfl) rfl (fun _ _ _ h=>h) (by assumption) ⟨?_,fun w hSw=> ?_,?_⟩;rotate_left
         ·((try dsimp only at hSw);go_simp;try with_reducible rfl)
         simp only[Act.put,sA,sZ,sS];refine jA 2 rfl (by kernel_rfl) rfl (fun _ _ _ h=>h) (by assumption) ⟨?_,fun w=> ?_,?_⟩;rotate_left
         ·(go_simp;try with_reducible rfl)
         simp only[Act.put,sA,sZ,sS];refine gN 3 rfl (by kernel_rfl) rfl (fun _ _ _ h=>h) (by assumption) ⟨?_,fun w hSw=> ?_,?_⟩;rotate_left
         ·((try dsimp only at hSw);go_simp;try with_reducible rfl)
         simp only[Act.put,sA,sZ,sS];refine cM 2 [4,5] (by kernel_rfl) (fun _ _ _ h=>h) (by assumption) ?_
         iterate 2
          refine cL rfl rfl ⟨?_,fun w=> ?_,?_⟩;rotate_left
          ·(go_simp;try with_reducible rfl)
          simp only[Act.put,sA,sZ,sS]
         refine cK ?_;refine aW (i:=6) (by kernel_rfl) ?_;refine wpOp_step (by rfl) fun K hK=> ?_
         go_simp;refine hK _ _ ⟨fun e=>hS,?_⟩;clear hK K;refine aW (i:=7) (by kernel_rfl) ?_;refine wpOp_step (by rfl) fun K hK=> ?_
         go_simp;have hL6:=(HL5.out.alloc rfl (.cells #[.int .u8 (ch.toNat:Int)] 5)).drew;simp only[dB,ba] at hL6;have c6:=hL6.cell (i:=1) rfl 2 rfl;refine hK _ _ ⟨fun e=>c6,?_⟩;clear hK K hS c2 hbc;generalize hB6:wr.heap.size=b6 at*
         generalize hW6:(wr.alloc (Obj.cells #[Value.int .u8 (ch.toNat:Int)] 5)).drew=W9 at*
         clear hB6 hW6;refine aW (i:=8) (by kernel_rfl) ?_;refine wpOp_step (by rfl) fun K hK=> ?_
         refine iX eh rfl _ _ rfl rfl hL6 0 rfl (x:= .slice (some ⟨b6,0,none⟩) 1 1) rfl (m:=1) (news:=[bv ch]) (hL6.one (i:=3) rfl) (by intro u hu;simp at hu;subst hu;rfl) (by unfold maxLen;omega) (by omega) fun v' W10 h7 _=> ?_
         have c7:=h7.cell (i:=1) rfl 2 rfl;refine hK _ _ ⟨fun e=>c7,?_⟩;clear hK K;simp only[js] at h7;simp only[Act.put,sA,sZ,sS];refine aW (i:=9) (by kernel_rfl) ?_;refine wpOp_step (by rfl) fun K hK=> ?_
         go_simp;refine hK _ _ ⟨fun e=>(by cases e),?_⟩;clear hK K;obtain⟨a7,c7',rfl⟩:=(h7.reads (i:=0) rfl).sub;have e0:=h7.cell (i:=1) rfl 2 rfl;have f0:=h7.free (i:=1) rfl 2;have h8:=h7.set (i:=1) rfl 2 (.slice a7 (o5.length+1:Nat) c7');refine aW (i:=10) (by kernel_rfl) ?_;refine wpOp_step (by rfl) fun K hK=> ?_
         go_simp;refine hK _ _ ⟨fun e=>(by cases e),?_⟩;clear hK K e0 f0;refine⟨by kernel_rfl,NoPanic.normal ?_⟩;simp only[js,lQ,l7] at h8;generalize W10.setCell ⟨b0,2,none⟩ (.slice a7 (o5.length+1:Nat) c7')=W11 at*
         have h9:St w0 W11 (blk b0 (.cells #[.string sb,.int .i64 (p4:Int),.slice a7 (o5++[ch]).length c7',.int .i64 (most:Int)] 153)*(blk bt (.cells #[.string sb,.int .i64 (p4:Int),.slice aj o.length cj,.int .i64 (most:Int)] 153)*(own 5 1 (.slice a7 (o5++[ch]).length c7') (o5++[ch]).length ((o5++[ch]).map bv)*(blk b1 (.cells #[.string ⟨#[]⟩,.int .i64 0,.slice none 0 0,.int .i64 0] 153)*F)))):=by
          have e1:(o5++[ch]).length=o5.length+1:=by simp
          have e2:(o5++[ch]).map bv=o5.map bv++[bv ch]:=by simp
          rw[e1,e2];have h10:St w0 W11 (own 5 1 (.slice a7 (o5.length+1) c7') (o5.length+1) (o5.map bv++[bv ch])*(blk b0 (.cells #[.string sb,.int .i64 (p4:Int),.slice a7 (o5.length+1) c7',.int .i64 (most:Int)] 153)*((blk bt (.cells #[.string sb,.int .i64 (p4:Int),.slice aj o.length cj,.int .i64 (most:Int)] 153)*(blk b1 (.cells #[.string ⟨#[]⟩,.int .i64 0,.slice none 0 0,.int .i64 0] 153)*F))*(blk b6 (.cells #[.int .u8 (ch.toNat:Int)] 5)*di)))):=h8;have h11:=h10.perm (show _=blk b6 (.cells #[.int .u8 (ch.toNat:Int)] 5)*(di*(blk b0 (.cells #[.string sb,.int .i64 (p4:Int),.slice a7 (o5.length+1) c7',.int .i64 (most:Int)] 153)*(blk bt (.cells #[.string sb,.int .i64 (p4:Int),.slice aj o.length cj,.int .i64 (most:Int)] 153)*(own 5 1 (.slice a7 (o5.length+1) c7') (o5.length+1) (o5.map bv++[bv ch])*(blk b1 (.cells #[.string ⟨#[]⟩,.int .i64 0,.slice none 0 0,.int .i64 0] 153)*F))))) by ac_rfl);exact h11.right.right
         rw[← HSN.out] at h9;have H9:=ac h9;clear h9 h8 h7 hL6 c6 c7;go_wp2_with fail;exact⟨⟨j+1,a7,c7',by omega,by go_num,H9.out⟩,by simp [intOf];omega⟩
        ·obtain rfl:j=n:=by omega
         have hcl:=oV d j o;have H17:=ac (hst.perm (show _=blk bt (.cells #[.string sb,.int .i64 (p4:Int),.slice aj o.length cj,.int .i64 (most:Int)] 153)*(blk b0 (.cells #[.string sb,.int .i64 (p4:Int),.slice a5 (dP d j o).length c5,.int .i64 (most:Int)] 153)*(own 5 1 (.slice a5 (dP d j o).length c5) ((dP d j o).length) ((dP d j o).map bv)*(blk b1 (.cells #[.string ⟨#[]⟩,.int .i64 0,.slice none 0 0,.int .i64 0] 153)*F))) by ac_rfl)).right;clear hst;go_wp2_with fail
         go_roundg g
         case measure=>omega
         case rel=>exact⟨p4,dP d j o,a5,c5,by have:=HG.out;have:=HQ1.out;have:=HGE1.out;have:=HGE2.out;have:=HGE3.out;omega,by omega,HRS.out,HP4.out,H17.out⟩
theorem FT {w0 w:World} {F:SProp} (h:St w0 w F) {t:List Nat} (ht:Bit t) (hl:t.length≤1000000000) {p:Nat} (hp:p≤t.length) {W:List (List Nat)} (hb:∀ v∈W,Bit v) (hW:W.length≤19) {vw:Value} (hv:Stb w0 F (fun w=>Reads w 1 vw W.length (W.map aD))) (n:Nat) (hn:n≤100000) {ao:Option Addr} {no co:Nat} {most:Int} {sb:ByteArray} (hsb:sb=⟨(tx t).toArray⟩):
  Calls Tryz.prog 152 #[.agg (bB sb p (.slice ao no co) most),vw,.int .i64 n] w fun e w'=>∃ (v:Value) (x p':Nat),
   e= .returned (.tuple #[.agg (bB sb p' (.slice ao no co) most),v,.int .i64 (x:Nat)])∧EP (cP t W n (n+1) [] p) v x p' w0 w' (fun _=>F)∧p'≤t.length:=by
 have T:=fA;have h1:=(h.alloc (.cells (bB sb p (.slice ao no co) most) 153)).alloc (.cells gI 153);have hsz:(w.alloc (.cells (bB sb p (.slice ao no co) most) 153)).heap.size=w.heap.size+1:=by
  show(w.heap.push _).size=_;exact gr _
 rw[hsz] at h1;obtain⟨aw,cw,rfl⟩:=(hv w h).sub;have HNUM:=ac (fun(w:World) (G:SProp) (h:St w0 w G) (q:Nat) (hq:q≤t.length) (n:Nat) (hn:n≤31)=>m9 h ht hl hq n hn (ao:=ao) (no:=no) (co:=co) (most:=most) hsb (j:=(n:Int)) rfl);have HNXT:=ac (fun(w:World) (G:SProp) (h:St w0 w G) (hv:Stb w0 G (fun w=>Reads w 1 (.slice aw W.length cw) W.length (W.map aD))) (q:Nat) (hq:q≤t.length)=>sp h ht hl hq hb (by omega) hv (ao:=ao) (no:=no) (co:=co) (most:=most) hsb);have HV:=ac hv;generalize hRES:cP t W n (n+1) [] p=RES at*
 have HRES:=ac hRES;clear hRES;unfold bB gI at h1;clear h hsz hsb hv;have H1:=ac (St.own_nil 3 1 h1);clear h1;unfold bB at HNUM HNXT ⊢;go_enter Tryz.func152,Tryz.ntmps152;go_upto_region 1 with (fail)
 have h1:=H1.out;clear H1;generalize hb0:w.heap.size=b0 at*
 generalize hb1:b0+1=b1 at*
 generalize hWW:(w.alloc (.cells #[.string sb,.int .i64 (p:Int),.slice ao no co,.int .i64 most] 153)).alloc (.cells #[.string ⟨#[]⟩,.int .i64 0,.slice none 0 0,.int .i64 0] 153)=Ww at*
 have hne:¬ b0=b1:=by omega
 have hne':¬ b1=b0:=by omega
 clear hb0 hb1 hWW;have H2:=ac (h1.perm (show _=own 3 1 (.slice none 0 0) 0 []*(blk b0 (.cells #[.string sb,.int .i64 (p:Int),.slice ao no co,.int .i64 most] 153)*(blk b1 (.cells #[.string ⟨#[]⟩,.int .i64 0,.slice none 0 0,.int .i64 0] 153)*F)) by ac_rfl));clear h1;go_wp2_with fail
 go_loopg [9] (n+1) (fun g va wr=>∃ (all:List Nat) (a:Option Addr) (c q:Nat),va= .slice a all.length c∧n+1≤g+all.length∧1≤g∧all.length≤n+300∧cP t W n g all q=RES∧q≤t.length∧St w0 wr (own 3 1 (.slice a all.length c) all.length (nvs all)*(blk b0 (.cells #[.string sb,.int .i64 (q:Int),.slice ao no co,.int .i64 most] 153)*(blk b1 (.cells #[.string ⟨#[]⟩,.int .i64 0,.slice none 0 0,.int .i64 0] 153)*F))))
 case atStart=>exact⟨[],none,0,p,rfl,by simp,by omega,by simp,HRES.out,hp,H2.out⟩
 case round=>
  clear H2 HRES;obtain⟨all,a,c,q,rfl,hg,hg1,hal,hres,hq,hst⟩:=hrel;obtain⟨g,rfl⟩:∃ g,gk=g+1:=⟨gk-1,by omega⟩;rw[cP] at hres;have HG:=ac hg;clear hg
  by_cases hln:all.length<n
  ·rw[if_pos hln] at hres;have hln2:(all.length:Int)<n:=by omega
   have hA:=hst.perm (af _ _ _);have c0:=hA.cell 0 rfl;have c1:=hA.cell 1 rfl;have c2:=hA.cell 2 rfl;have c3:=hA.cell 3 rfl;have hlen:=ot W (t.drop q) [];have hdl:(t.drop q).length=t.length-q:=bH;have C:=HNXT.out wr _ hst (fun w h=>HV.out w h.right.right.right) q hq;generalize bG W [] (t.drop q)=r at*
   obtain⟨k,r⟩:=r;have hk1:q+k≤t.length:=by have:=hlen.2.1;simp only[bD,hdl] at this;omega
   have HC:=ac C;clear C hst hA hdl;have HRS:=ac hres;clear hres;go_wp2_with fail;refine HC.out.mono ?_;rintro e w2 ⟨z,x,p1,rfl,hrd,h3⟩;have hA:=h3.alloc (.cells #[.string sb,.int .i64 (p1:Int),.slice ao no co,.int .i64 most] 153);clear h3 c0 c1 c2 c3 HC;go_upto_region 4 with (fail)
   generalize w2.heap.size=bt at*
   generalize w2.alloc (.cells #[.string sb,.int .i64 (p1:Int),.slice ao no co,.int .i64 most] 153)=W3 at*
   have t0:=hA.cell 0 rfl;have t1:=hA.cell 1 rfl;have t2:=hA.cell 2 rfl;have t3:=hA.cell 3 rfl;cases r with
   | inr er=>
    have her:=hlen.2.2.2.2 er rfl;obtain⟨hp1,hx⟩:=hrd;have HP1:=ac (show p1≤t.length by rw[hp1];exact hk1);simp only at hx HRS;subst hx;have hx2:¬ (x:Int)=0:=by omega
    have hB:=hA.perm (show _=blk b1 (.cells #[.string ⟨#[]⟩,.int .i64 0,.slice none 0 0,.int .i64 0] 153)*(blk bt (.cells #[.string sb,.int .i64 (p1:Int),.slice ao no co,.int .i64 most] 153)*(blk b0 (.cells #[.string sb,.int .i64 (q:Int),.slice ao no co,.int .i64 most] 153)*(own 3 1 (.slice a all.length c) all.length (nvs all)*F))) by ac_rfl);have r0:=hB.cell 0 rfl;have r1:=hB.cell 1 rfl;have r2:=hB.cell 2 rfl;have r3:=hB.cell 3 rfl;have rf0:=hB.free 0;have rf1:=hB.free 1;have rf2:=hB.free 2;have rf3:=hB.free 3;have HF:=ac (aP hB rfl (.string sb) (.int .i64 (p1:Int)) (.slice ao no co) (.int .i64 most));clear hA hB hlen hp1 hk1;go_wp2_with fail;refine it rfl rfl HF.out.at_ Tryz.underlying153 rfl (by show _=some 4;kernel_rfl) rfl ?_;rw[← HRS.out];exact⟨_,x,p1,rfl,⟨rfl,by omega,HF.out.right.right.right.right⟩,HP1.out⟩
   | inl i=>
    obtain⟨hp1,hx,hz⟩:=hrd;subst hx hz;have HP1:=ac (show p1≤t.length by rw[hp1];exact hk1);simp only at HRS;rw[← hp1] at HRS;have hi19:=(hlen.2.2.2.1 i rfl).2;have hB:=hA.perm (show _=blk b0 (.cells #[.string sb,.int .i64 (q:Int),.slice ao no co,.int .i64 most] 153)*(blk bt (.cells #[.string sb,.int .i64 (p1:Int),.slice ao no co,.int .i64 most] 153)*(own 3 1 (.slice a all.length c) all.length (nvs all)*(blk b1 (.cells #[.string ⟨#[]⟩,.int .i64 0,.slice none 0 0,.int .i64 0] 153)*F))) by ac_rfl);have r0:=hB.cell 0 rfl;have r1:=hB.cell 1 rfl;have r2:=hB.cell 2 rfl;have r3:=hB.cell 3 rfl;have rf0:=hB.free 0;have rf1:=hB.free 1;have rf2:=hB.free 2;have rf3:=hB.free 3;have h6:=((aP hB rfl (.string sb) (.int .i64 (p1:Int)) (.slice ao no co) (.int .i64 most)).perm (show _=blk bt (.cells #[.string sb,.int .i64 (p1:Int),.slice ao no co,.int .i64 most] 153)*(blk b0 (.cells #[.string sb,.int .i64 (p1:Int),.slice ao no co,.int .i64 most] 153)*(own 3 1 (.slice a all.length c) all.length (nvs all)*(blk b1 (.cells #[.string ⟨#[]⟩,.int .i64 0,.slice none 0 0,.int .i64 0] 153)*F))) by ac_rfl)).right;have H6:=ac h6;clear hA hB h6 hlen hp1 hk1;go_upto_region 7 with (fail)
    generalize (((W3.setCell ⟨b0,0,none⟩ (.string sb)).setCell ⟨b0,1,none⟩ (.int .i64 (p1:Int))).setCell ⟨b0,2,none⟩ (.slice ao no co)).setCell ⟨b0,3,none⟩ (.int .i64 most)=W4 at*
    clear t0 t1 t2 t3 r0 r1 r2 r3 rf0 rf1 rf2 rf3;have h7:=H6.out;clear H6;have d0:=h7.cell 0 rfl;have d1:=h7.cell 1 rfl;have d2:=h7.cell 2 rfl;have d3:=h7.cell 3 rfl;have hres:=HRS.out;clear HRS
    by_cases h16:i<16
    ·rw[if_pos h16] at hres;have g16:¬ (i:Int)=16:=by omega
     have g17:¬ (i:Int)=17:=by omega
     have g18:¬ (i:Int)=18:=by omega
     have hres:(if t.length<p1+0 then .inl 2 else cP t W n g (all++List.replicate (1+vl t p1 0) i) (p1+0))=RES:=by
      have:=HP1.out;rw[if_neg (by omega)];exact hres
     have C:=HNUM.out W4 _ h7 p1 HP1.out 0 (by omega);have HRR:=ac hres;clear hres
     by_cases hcut:t.length<p1+0
     ·rw[if_pos hcut,if_pos hcut,if_pos hcut] at C;have hr:=HRR.out;rw[if_pos hcut] at hr;have HRX:=ac hr;clear hr HRR;have HC:=ac C;clear C h7;go_wp2_with fail;refine HC.out.mono ?_;rintro e w5 ⟨rfl,h8⟩;have hD:=h8.alloc (.cells #[.string sb,.int .i64 (p1:Int),.slice ao no co,.int .i64 most] 153);clear h8 d0 d1 d2 d3 HC;go_upto_region 17 with (fail)
      generalize w5.heap.size=bu at*
      generalize w5.alloc (.cells #[.string sb,.int .i64 (p1:Int),.slice ao no co,.int .i64 most] 153)=W5 at*
      have u0:=hD.cell 0 rfl;have u1:=hD.cell 1 rfl;have u2:=hD.cell 2 rfl;have u3:=hD.cell 3 rfl;have hE:=hD.perm (show _=blk b1 (.cells #[.string ⟨#[]⟩,.int .i64 0,.slice none 0 0,.int .i64 0] 153)*(blk bu (.cells #[.string sb,.int .i64 (p1:Int),.slice ao no co,.int .i64 most] 153)*(blk b0 (.cells #[.string sb,.int .i64 (p1:Int),.slice ao no co,.int .i64 most] 153)*(own 3 1 (.slice a all.length c) all.length (nvs all)*F))) by ac_rfl);have r0:=hE.cell 0 rfl;have r1:=hE.cell 1 rfl;have r2:=hE.cell 2 rfl;have r3:=hE.cell 3 rfl;have rf0:=hE.free 0;have rf1:=hE.free 1;have rf2:=hE.free 2;have rf3:=hE.free 3;have HF:=ac (aP hE rfl (.string sb) (.int .i64 (p1:Int)) (.slice ao no co) (.int .i64 most));clear hD hE;go_wp2_with fail;refine it rfl rfl HF.out.at_ Tryz.underlying153 rfl (by show _=some 4;kernel_rfl) rfl ?_;rw[← HRX.out];exact⟨_,2,p1,rfl,⟨rfl,by decide,HF.out.right.right.right.right⟩,HP1.out⟩
     ·rw[if_neg hcut,if_neg hcut,if_neg hcut] at C;have hr:=HRR.out;rw[if_neg hcut] at hr;obtain⟨p2,hp2⟩:∃ p2,p2=p1+0:=⟨_,rfl⟩;rw[← hp2] at C hr;have HP2:=ac (show p2≤t.length by omega);clear hp2;have hmv:vl t p1 0<2^0:=eH true (fun i=>t.getD (p1+i) 0) (fun i=>ht.getD _) 0;generalize vl t p1 0=mr at*
      have hmr:mr≤127:=by simp only[Nat.reducePow] at hmv;omega
      have HRX:=ac hr;clear hr HRR hmv;have HC:=ac C;clear C h7;obtain⟨M,hM⟩:∃ M,M=1+mr:=⟨_,rfl⟩;have hMi:(1:Int)+mr=(M:Int):=by omega
      have hM2:M≤138:=by omega
      have HM:=ac hM;rw[← hM] at HRX;clear hM;go_wp2_with fail;refine HC.out.mono ?_;rintro e w5 ⟨rfl,h8⟩;have hD:=h8.alloc (.cells #[.string sb,.int .i64 (p2:Int),.slice ao no co,.int .i64 most] 153);clear h8 d0 d1 d2 d3 HC;go_upto_region 17 with (fail)
      generalize w5.heap.size=bu at*
      generalize w5.alloc (.cells #[.string sb,.int .i64 (p2:Int),.slice ao no co,.int .i64 most] 153)=W5 at*
      have u0:=hD.cell 0 rfl;have u1:=hD.cell 1 rfl;have u2:=hD.cell 2 rfl;have u3:=hD.cell 3 rfl;have hE:=hD.perm (show _=blk b0 (.cells #[.string sb,.int .i64 (p1:Int),.slice ao no co,.int .i64 most] 153)*(blk bu (.cells #[.string sb,.int .i64 (p2:Int),.slice ao no co,.int .i64 most] 153)*(own 3 1 (.slice a all.length c) all.length (nvs all)*(blk b1 (.cells #[.string ⟨#[]⟩,.int .i64 0,.slice none 0 0,.int .i64 0] 153)*F))) by ac_rfl);have r0:=hE.cell 0 rfl;have r1:=hE.cell 1 rfl;have r2:=hE.cell 2 rfl;have r3:=hE.cell 3 rfl;have rf0:=hE.free 0;have rf1:=hE.free 1;have rf2:=hE.free 2;have rf3:=hE.free 3;have h9:=((aP hE rfl (.string sb) (.int .i64 (p2:Int)) (.slice ao no co) (.int .i64 most)).perm (show _=blk bu (.cells #[.string sb,.int .i64 (p2:Int),.slice ao no co,.int .i64 most] 153)*(own 3 1 (.slice a all.length c) all.length (nvs all)*(blk b0 (.cells #[.string sb,.int .i64 (p2:Int),.slice ao no co,.int .i64 most] 153)*(blk b1 (.cells #[.string ⟨#[]⟩,.int .i64 0,.slice none 0 0,.int .i64 0] 153)*F))) by ac_rfl)).right;have H9:=ac h9;clear hD hE h9;go_upto_region 20 with (fail)
      generalize (((W5.setCell ⟨b0,0,none⟩ (.string sb)).setCell ⟨b0,1,none⟩ (.int .i64 (p2:Int))).setCell ⟨b0,2,none⟩ (.slice ao no co)).setCell ⟨b0,3,none⟩ (.int .i64 most)=W6 at*
      clear u0 u1 u2 u3 r0 r1 r2 r3 rf0 rf1 rf2 rf3;go_wp2_with fail
      go_loopw [9,19] (fun vo vi wr=>∃ (m:Nat) (aj:Option Addr) (cj:Nat),m≤M∧vi= .int .i64 m∧vo= .slice aj (all.length+m) cj∧St w0 wr (own 3 1 (.slice aj (all.length+m) cj) (all.length+m) (nvs (all++List.replicate m i))*(blk b0 (.cells #[.string sb,.int .i64 (p2:Int),.slice ao no co,.int .i64 most] 153)*(blk b1 (.cells #[.string ⟨#[]⟩,.int .i64 0,.slice none 0 0,.int .i64 0] 153)*F)))) (fun _ vi _=>M-(intOf vi).toNat)
      case atStart=>exact⟨0,_,_,by omega,rfl,rfl,by simpa using H9.out⟩
      case round=>
       clear H9;obtain⟨m,aj,cj,hj,rfl,rfl,hst⟩:=hrel
       by_cases hjM:m<M
       ·have hj2:(m:Int)<M:=by omega
        have HX:=ac (show nvs (all++List.replicate m i)++[((i:Nat):Int)].map iv=nvs (all++List.replicate (m+1) i) by rw[ft,← List.append_assoc,nvs,nvs,List.map_append (l₂:=[i])];rfl);have HST:=ac hst;clear hst;go_wp2_with (at_builtin;apply ag);refine on (aC T rfl _ _ rfl rfl (HST.out.drop_alloc (.cells #[.int .i64 ((i:Nat):Int)] 3)) rfl (gH _ (i:Nat)) (dS [((i:Nat):Int)]) ?_ ?_ ?_)
        ·unfold maxLen;omega
        ·omega
        intro v' w7 h9 _;rw[HX.out,ec] at h9;obtain⟨aN,cN,rfl⟩:=h9.reads.sub;have H9:=ac h9;clear h9;go_wp2_with fail
        go_roundw
        case rel=>exact⟨m+1,aN,cN,by omega,by go_num,rfl,H9.out⟩
        case measure=>simp [intOf];omega
       ·obtain rfl:m=M:=by omega
        have hl1:(all++List.replicate m i).length=all.length+m:=by simp
        have hMp:1≤m:=by have:=HM.out;omega
        have h9:=hst;rw[← hl1] at h9;have H9:=ac h9;clear h9 hst;have HRY:=ac HRX.out;clear HRX;go_wp2_with fail
        go_roundg g
        case measure=>omega
        case rel=>exact⟨all++List.replicate m i,aj,cj,p2,by rw[hl1],by rw[hl1];have:=HG.out;omega,by have:=HG.out;omega,by rw[hl1];omega,HRY.out,HP2.out,H9.out⟩
    rw[if_neg h16] at hres
    by_cases hi16:i=16
    ·subst hi16
     by_cases hall:all=[]
     ·rw[if_pos ⟨rfl,hall⟩] at hres;have HRX:=ac hres;clear hres;subst hall;have hE:=h7.perm (show _=blk b1 (.cells #[.string ⟨#[]⟩,.int .i64 0,.slice none 0 0,.int .i64 0] 153)*(blk b0 (.cells #[.string sb,.int .i64 (p1:Int),.slice ao no co,.int .i64 most] 153)*(own 3 1 (.slice a 0 c) 0 (nvs [])*F)) by ac_rfl);have r0:=hE.cell 0 rfl;have r1:=hE.cell 1 rfl;have r2:=hE.cell 2 rfl;have r3:=hE.cell 3 rfl;have rf0:=hE.free 0;have rf1:=hE.free 1;have rf2:=hE.free 2;have rf3:=hE.free 3;have HF:=ac (aP hE rfl (.string sb) (.int .i64 (p1:Int)) (.slice ao no co) (.int .i64 most));clear hE h7;go_wp2_with fail;refine it rfl rfl HF.out.at_ Tryz.underlying153 rfl (by show _=some 4;kernel_rfl) rfl ?_;rw[← HRX.out];exact⟨_,3,p1,rfl,⟨rfl,by decide,HF.out.right.right.right⟩,HP1.out⟩
     ·simp only[hall,and_false, ↓reduceIte,Nat.reduceEqDiff] at hres;have hpos:0<all.length:=yZ.2 hall;have hpos2:¬ (all.length:Int)=0:=by omega
      have hoo:=h7.right;obtain⟨ga,rfl⟩:=bR hoo hpos;have hcl:W4.cell? ⟨ga,all.length-1,none⟩=some (.int .i64 (all.getD (all.length-1) 0:Nat)):=hoo.own_cell (i:=all.length-1) (by
       rw[nvs,au,List.getD_eq_getElem?_getD,ai (by omega)];rfl)
      generalize all.getD (all.length-1) 0=val at*
      have hsb:(all.length:Int)-1=((all.length-1:Nat):Int):=by omega
      have hsb2:((all.length-1:Nat):Int)<all.length:=by omega
      clear hall hoo;generalize all.length-1=la at*
      go_upto_region 11 with (fail)
      go_quiet (fail);have h17:=h7.drewN nq;clear d0 d1 d2 d3 hcl h7 hsb;generalize W4.drewN nq=W40 at*
      have h7:=h17;clear h17;have d0:=h7.cell 0 rfl;have d1:=h7.cell 1 rfl;have d2:=h7.cell 2 rfl;have d3:=h7.cell 3 rfl;have C:=HNUM.out W40 _ h7 p1 HP1.out 2 (by omega);have HRR:=ac hres;clear hres
      by_cases hcut:t.length<p1+2
      ·rw[if_pos hcut,if_pos hcut,if_pos hcut] at C;have hr:=HRR.out;rw[if_pos hcut] at hr;have HRX:=ac hr;clear hr HRR;have HC:=ac C;clear C h7;go_wp2_with fail;refine HC.out.mono ?_;rintro e w5 ⟨rfl,h8⟩;have hD:=h8.alloc (.cells #[.string sb,.int .i64 (p1:Int),.slice ao no co,.int .i64 most] 153);clear h8 d0 d1 d2 d3 HC;go_upto_region 17 with (fail)
       generalize w5.heap.size=bu at*
       generalize w5.alloc (.cells #[.string sb,.int .i64 (p1:Int),.slice ao no co,.int .i64 most] 153)=W5 at*
       have u0:=hD.cell 0 rfl;have u1:=hD.cell 1 rfl;have u2:=hD.cell 2 rfl;have u3:=hD.cell 3 rfl;have hE:=hD.perm (show _=blk b1 (.cells #[.string ⟨#[]⟩,.int .i64 0,.slice none 0 0,.int .i64 0] 153)*(blk bu (.cells #[.string sb,.int .i64 (p1:Int),.slice ao no co,.int .i64 most] 153)*(blk b0 (.cells #[.string sb,.int .i64 (p1:Int),.slice ao no co,.int .i64 most] 153)*(own 3 1 (.slice (some ⟨ga,0,none⟩) all.length c) all.length (nvs all)*F))) by ac_rfl);have r0:=hE.cell 0 rfl;have r1:=hE.cell 1 rfl;have r2:=hE.cell 2 rfl;have r3:=hE.cell 3 rfl;have rf0:=hE.free 0;have rf1:=hE.free 1;have rf2:=hE.free 2;have rf3:=hE.free 3;have HF:=ac (aP hE rfl (.string sb) (.int .i64 (p1:Int)) (.slice ao no co) (.int .i64 most));clear hD hE;go_wp2_with fail;refine it rfl rfl HF.out.at_ Tryz.underlying153 rfl (by show _=some 4;kernel_rfl) rfl ?_;rw[← HRX.out];exact⟨_,2,p1,rfl,⟨rfl,by decide,HF.out.right.right.right.right⟩,HP1.out⟩
      ·rw[if_neg hcut,if_neg hcut,if_neg hcut] at C;have hr:=HRR.out;rw[if_neg hcut] at hr;obtain⟨p2,hp2⟩:∃ p2,p2=p1+2:=⟨_,rfl⟩;rw[← hp2] at C hr;have HP2:=ac (show p2≤t.length by omega);clear hp2;have hmv:vl t p1 2<2^2:=eH true (fun i=>t.getD (p1+i) 0) (fun i=>ht.getD _) 2;generalize vl t p1 2=mr at*
       have hmr:mr≤127:=by simp only[Nat.reducePow] at hmv;omega
       have HRX:=ac hr;clear hr HRR hmv;have HC:=ac C;clear C h7;obtain⟨M,hM⟩:∃ M,M=3+mr:=⟨_,rfl⟩;have hMi:(3:Int)+mr=(M:Int):=by omega
       have hM2:M≤138:=by omega
       have HM:=ac hM;rw[← hM] at HRX;clear hM;go_wp2_with fail;refine HC.out.mono ?_;rintro e w5 ⟨rfl,h8⟩;have hD:=h8.alloc (.cells #[.string sb,.int .i64 (p2:Int),.slice ao no co,.int .i64 most] 153);clear h8 d0 d1 d2 d3 HC;go_upto_region 17 with (fail)
       generalize w5.heap.size=bu at*
       generalize w5.alloc (.cells #[.string sb,.int .i64 (p2:Int),.slice ao no co,.int .i64 most] 153)=W5 at*
       have u0:=hD.cell 0 rfl;have u1:=hD.cell 1 rfl;have u2:=hD.cell 2 rfl;have u3:=hD.cell 3 rfl;have hE:=hD.perm (show _=blk b0 (.cells #[.string sb,.int .i64 (p1:Int),.slice ao no co,.int .i64 most] 153)*(blk bu (.cells #[.string sb,.int .i64 (p2:Int),.slice ao no co,.int .i64 most] 153)*(own 3 1 (.slice (some ⟨ga,0,none⟩) all.length c) all.length (nvs all)*(blk b1 (.cells #[.string ⟨#[]⟩,.int .i64 0,.slice none 0 0,.int .i64 0] 153)*F))) by ac_rfl);have r0:=hE.cell 0 rfl;have r1:=hE.cell 1 rfl;have r2:=hE.cell 2 rfl;have r3:=hE.cell 3 rfl;have rf0:=hE.free 0;have rf1:=hE.free 1;have rf2:=hE.free 2;have rf3:=hE.free 3;have h9:=((aP hE rfl (.string sb) (.int .i64 (p2:Int)) (.slice ao no co) (.int .i64 most)).perm (show _=blk bu (.cells #[.string sb,.int .i64 (p2:Int),.slice ao no co,.int .i64 most] 153)*(own 3 1 (.slice (some ⟨ga,0,none⟩) all.length c) all.length (nvs all)*(blk b0 (.cells #[.string sb,.int .i64 (p2:Int),.slice ao no co,.int .i64 most] 153)*(blk b1 (.cells #[.string ⟨#[]⟩,.int .i64 0,.slice none 0 0,.int .i64 0] 153)*F))) by ac_rfl)).right;have H9:=ac h9;clear hD hE h9;go_upto_region 20 with (fail)
       generalize (((W5.setCell ⟨b0,0,none⟩ (.string sb)).setCell ⟨b0,1,none⟩ (.int .i64 (p2:Int))).setCell ⟨b0,2,none⟩ (.slice ao no co)).setCell ⟨b0,3,none⟩ (.int .i64 most)=W6 at*
       clear u0 u1 u2 u3 r0 r1 r2 r3 rf0 rf1 rf2 rf3;go_wp2_with fail
       go_loopw [9,19] (fun vo vi wr=>∃ (m:Nat) (aj:Option Addr) (cj:Nat),m≤M∧vi= .int .i64 m∧vo= .slice aj (all.length+m) cj∧St w0 wr (own 3 1 (.slice aj (all.length+m) cj) (all.length+m) (nvs (all++List.replicate m val))*(blk b0 (.cells #[.string sb,.int .i64 (p2:Int),.slice ao no co,.int .i64 most] 153)*(blk b1 (.cells #[.string ⟨#[]⟩,.int .i64 0,.slice none 0 0,.int .i64 0] 153)*F)))) (fun _ vi _=>M-(intOf vi).toNat)
       case atStart=>exact⟨0,_,_,by omega,rfl,rfl,by simpa using H9.out⟩
       case round=>
        clear H9;obtain⟨m,aj,cj,hj,rfl,rfl,hst⟩:=hrel
        by_cases hjM:m<M
        ·have hj2:(m:Int)<M:=by omega
         have HX:=ac (show nvs (all++List.replicate m val)++[((val:Nat):Int)].map iv=nvs (all++List.replicate (m+1) val) by rw[ft,← List.append_assoc,nvs,nvs,List.map_append (l₂:=[val])];rfl);have HST:=ac hst;clear hst;go_wp2_with (at_builtin;apply ag);refine on (aC T rfl _ _ rfl rfl (HST.out.drop_alloc (.cells #[.int .i64 ((val:Nat):Int)] 3)) rfl (gH _ (val:Nat)) (dS [((val:Nat):Int)]) ?_ ?_ ?_)
         ·unfold maxLen;omega
         ·omega
         intro v' w7 h9 _;rw[HX.out,ec] at h9;obtain⟨aN,cN,rfl⟩:=h9.reads.sub;have H9:=ac h9;clear h9;go_wp2_with fail
         go_roundw
         case rel=>exact⟨m+1,aN,cN,by omega,by go_num,rfl,H9.out⟩
         case measure=>simp [intOf];omega
        ·obtain rfl:m=M:=by omega
         have hl1:(all++List.replicate m val).length=all.length+m:=by simp
         have hMp:1≤m:=by have:=HM.out;omega
         have h9:=hst;rw[← hl1] at h9;have H9:=ac h9;clear h9 hst;have HRY:=ac HRX.out;clear HRX;go_wp2_with fail
         go_roundg g
         case measure=>omega
         case rel=>exact⟨all++List.replicate m val,aj,cj,p2,by rw[hl1],by rw[hl1];have:=HG.out;omega,by have:=HG.out;omega,by rw[hl1];omega,HRY.out,HP2.out,H9.out⟩
    ·have g16:¬ (i:Int)=16:=by omega
     simp only[hi16,false_and, ↓reduceIte] at hres
     by_cases hi18:i=18
     ·subst hi18;simp only[↓reduceIte] at hres;have C:=HNUM.out W4 _ h7 p1 HP1.out 7 (by omega);have HRR:=ac hres;clear hres
      by_cases hcut:t.length<p1+7
      ·rw[if_pos hcut,if_pos hcut,if_pos hcut] at C;have hr:=HRR.out;rw[if_pos hcut] at hr;have HRX:=ac hr;clear hr HRR;have HC:=ac C;clear C h7;go_wp2_with fail;refine HC.out.mono ?_;rintro e w5 ⟨rfl,h8⟩;have hD:=h8.alloc (.cells #[.string sb,.int .i64 (p1:Int),.slice ao no co,.int .i64 most] 153);clear h8 d0 d1 d2 d3 HC;go_upto_region 17 with (fail)
       generalize w5.heap.size=bu at*
       generalize w5.alloc (.cells #[.string sb,.int .i64 (p1:Int),.slice ao no co,.int .i64 most] 153)=W5 at*
       have u0:=hD.cell 0 rfl;have u1:=hD.cell 1 rfl;have u2:=hD.cell 2 rfl;have u3:=hD.cell 3 rfl;have hE:=hD.perm (show _=blk b1 (.cells #[.string ⟨#[]⟩,.int .i64 0,.slice none 0 0,.int .i64 0] 153)*(blk bu (.cells #[.string sb,.int .i64 (p1:Int),.slice ao no co,.int .i64 most] 153)*(blk b0 (.cells #[.string sb,.int .i64 (p1:Int),.slice ao no co,.int .i64 most] 153)*(own 3 1 (.slice a all.length c) all.length (nvs all)*F))) by ac_rfl);have r0:=hE.cell 0 rfl;have r1:=hE.cell 1 rfl;have r2:=hE.cell 2 rfl;have r3:=hE.cell 3 rfl;have rf0:=hE.free 0;have rf1:=hE.free 1;have rf2:=hE.free 2;have rf3:=hE.free 3;have HF:=ac (aP hE rfl (.string sb) (.int .i64 (p1:Int)) (.slice ao no co) (.int .i64 most));clear hD hE;go_wp2_with fail;refine it rfl rfl HF.out.at_ Tryz.underlying153 rfl (by show _=some 4;kernel_rfl) rfl ?_;rw[← HRX.out];exact⟨_,2,p1,rfl,⟨rfl,by decide,HF.out.right.right.right.right⟩,HP1.out⟩
      ·rw[if_neg hcut,if_neg hcut,if_neg hcut] at C;have hr:=HRR.out;rw[if_neg hcut] at hr;obtain⟨p2,hp2⟩:∃ p2,p2=p1+7:=⟨_,rfl⟩;rw[← hp2] at C hr;have HP2:=ac (show p2≤t.length by omega);clear hp2;have hmv:vl t p1 7<2^7:=eH true (fun i=>t.getD (p1+i) 0) (fun i=>ht.getD _) 7;generalize vl t p1 7=mr at*
       have hmr:mr≤127:=by simp only[Nat.reducePow] at hmv;omega
       have HRX:=ac hr;clear hr HRR hmv;have HC:=ac C;clear C h7;obtain⟨M,hM⟩:∃ M,M=11+mr:=⟨_,rfl⟩;have hMi:(11:Int)+mr=(M:Int):=by omega
       have hM2:M≤138:=by omega
       have HM:=ac hM;rw[← hM] at HRX;clear hM;go_wp2_with fail;refine HC.out.mono ?_;rintro e w5 ⟨rfl,h8⟩;have hD:=h8.alloc (.cells #[.string sb,.int .i64 (p2:Int),.slice ao no co,.int .i64 most] 153);clear h8 d0 d1 d2 d3 HC;go_upto_region 17 with (fail)
       generalize w5.heap.size=bu at*
       generalize w5.alloc (.cells #[.string sb,.int .i64 (p2:Int),.slice ao no co,.int .i64 most] 153)=W5 at*
       have u0:=hD.cell 0 rfl;have u1:=hD.cell 1 rfl;have u2:=hD.cell 2 rfl;have u3:=hD.cell 3 rfl;have hE:=hD.perm (show _=blk b0 (.cells #[.string sb,.int .i64 (p1:Int),.slice ao no co,.int .i64 most] 153)*(blk bu (.cells #[.string sb,.int .i64 (p2:Int),.slice ao no co,.int .i64 most] 153)*(own 3 1 (.slice a all.length c) all.length (nvs all)*(blk b1 (.cells #[.string ⟨#[]⟩,.int .i64 0,.slice none 0 0,.int .i64 0] 153)*F))) by ac_rfl);have r0:=hE.cell 0 rfl;have r1:=hE.cell 1 rfl;have r2:=hE.cell 2 rfl;have r3:=hE.cell 3 rfl;have rf0:=hE.free 0;have rf1:=hE.free 1;have rf2:=hE.free 2;have rf3:=hE.free 3;have h9:=((aP hE rfl (.string sb) (.int .i64 (p2:Int)) (.slice ao no co) (.int .i64 most)).perm (show _=blk bu (.cells #[.string sb,.int .i64 (p2:Int),.slice ao no co,.int .i64 most] 153)*(own 3 1 (.slice a all.length c) all.length (nvs all)*(blk b0 (.cells #[.string sb,.int .i64 (p2:Int),.slice ao no co,.int .i64 most] 153)*(blk b1 (.cells #[.string ⟨#[]⟩,.int .i64 0,.slice none 0 0,.int .i64 0] 153)*F))) by ac_rfl)).right;have H9:=ac h9;clear hD hE h9;go_upto_region 20 with (fail)
       generalize (((W5.setCell ⟨b0,0,none⟩ (.string sb)).setCell ⟨b0,1,none⟩ (.int .i64 (p2:Int))).setCell ⟨b0,2,none⟩ (.slice ao no co)).setCell ⟨b0,3,none⟩ (.int .i64 most)=W6 at*
       clear u0 u1 u2 u3 r0 r1 r2 r3 rf0 rf1 rf2 rf3;go_wp2_with fail
       go_loopw [9,19] (fun vo vi wr=>∃ (m:Nat) (aj:Option Addr) (cj:Nat),m≤M∧vi= .int .i64 m∧vo= .slice aj (all.length+m) cj∧St w0 wr (own 3 1 (.slice aj (all.length+m) cj) (all.length+m) (nvs (all++List.replicate m 0))*(blk b0 (.cells #[.string sb,.int .i64 (p2:Int),.slice ao no co,.int .i64 most] 153)*(blk b1 (.cells #[.string ⟨#[]⟩,.int .i64 0,.slice none 0 0,.int .i64 0] 153)*F)))) (fun _ vi _=>M-(intOf vi).toNat)
       case atStart=>exact⟨0,_,_,by omega,rfl,rfl,by simpa using H9.out⟩
       case round=>
        clear H9;obtain⟨m,aj,cj,hj,rfl,rfl,hst⟩:=hrel
        by_cases hjM:m<M
        ·have hj2:(m:Int)<M:=by omega
         have HX:=ac (show nvs (all++List.replicate m 0)++[(0:Int)].map iv=nvs (all++List.replicate (m+1) 0) by rw[ft,← List.append_assoc,nvs,nvs,List.map_append (l₂:=[0])];rfl);have HST:=ac hst;clear hst;go_wp2_with (at_builtin;apply ag);refine on (aC T rfl _ _ rfl rfl (HST.out.drop_alloc (.cells #[.int .i64 (0:Int)] 3)) rfl (gH _ 0) (dS [(0:Int)]) ?_ ?_ ?_)
         ·unfold maxLen;omega
         ·omega
         intro v' w7 h9 _;rw[HX.out,ec] at h9;obtain⟨aN,cN,rfl⟩:=h9.reads.sub;have H9:=ac h9;clear h9;go_wp2_with fail
         go_roundw
         case rel=>exact⟨m+1,aN,cN,by omega,by go_num,rfl,H9.out⟩
         case measure=>simp [intOf];omega
        ·obtain rfl:m=M:=by omega
         have hl1:(all++List.replicate m 0).length=all.length+m:=by simp
         have hMp:1≤m:=by have:=HM.out;omega
         have h9:=hst;rw[← hl1] at h9;have H9:=ac h9;clear h9 hst;have HRY:=ac HRX.out;clear HRX;go_wp2_with fail
         go_roundg g
         case measure=>omega
         case rel=>exact⟨all++List.replicate m 0,aj,cj,p2,by rw[hl1],by rw[hl1];have:=HG.out;omega,by have:=HG.out;omega,by rw[hl1];omega,HRY.out,HP2.out,H9.out⟩
     ·have hi17:i=17:=by omega
      subst hi17;simp only[Nat.reduceEqDiff, ↓reduceIte] at hres;have C:=HNUM.out W4 _ h7 p1 HP1.out 3 (by omega);have HRR:=ac hres;clear hres
      by_cases hcut:t.length<p1+3
      ·rw[if_pos hcut,if_pos hcut,if_pos hcut] at C;have hr:=HRR.out;rw[if_pos hcut] at hr;have HRX:=ac hr;clear hr HRR;have HC:=ac C;clear C h7;go_wp2_with fail;refine HC.out.mono ?_;rintro e w5 ⟨rfl,h8⟩;have hD:=h8.alloc (.cells #[.string sb,.int .i64 (p1:Int),.slice ao no co,.int .i64 most] 153);clear h8 d0 d1 d2 d3 HC;go_upto_region 17 with (fail)
       generalize w5.heap.size=bu at*
       generalize w5.alloc (.cells #[.string sb,.int .i64 (p1:Int),.slice ao no co,.int .i64 most] 153)=W5 at*
       have u0:=hD.cell 0 rfl;have u1:=hD.cell 1 rfl;have u2:=hD.cell 2 rfl;have u3:=hD.cell 3 rfl;have hE:=hD.perm (show _=blk b1 (.cells #[.string ⟨#[]⟩,.int .i64 0,.slice none 0 0,.int .i64 0] 153)*(blk bu (.cells #[.string sb,.int .i64 (p1:Int),.slice ao no co,.int .i64 most] 153)*(blk b0 (.cells #[.string sb,.int .i64 (p1:Int),.slice ao no co,.int .i64 most] 153)*(own 3 1 (.slice a all.length c) all.length (nvs all)*F))) by ac_rfl);have r0:=hE.cell 0 rfl;have r1:=hE.cell 1 rfl;have r2:=hE.cell 2 rfl;have r3:=hE.cell 3 rfl;have rf0:=hE.free 0;have rf1:=hE.free 1;have rf2:=hE.free 2;have rf3:=hE.free 3;have HF:=ac (aP hE rfl (.string sb) (.int .i64 (p1:Int)) (.slice ao no co) (.int .i64 most));clear hD hE;go_wp2_with fail;refine it rfl rfl HF.out.at_ Tryz.underlying153 rfl (by show _=some 4;kernel_rfl) rfl ?_;rw[← HRX.out];exact⟨_,2,p1,rfl,⟨rfl,by decide,HF.out.right.right.right.right⟩,HP1.out⟩
      ·rw[if_neg hcut,if_neg hcut,if_neg hcut] at C;have hr:=HRR.out;rw[if_neg hcut] at hr;obtain⟨p2,hp2⟩:∃ p2,p2=p1+3:=⟨_,rfl⟩;rw[← hp2] at C hr;have HP2:=ac (show p2≤t.length by omega);clear hp2;have hmv:vl t p1 3<2^3:=eH true (fun i=>t.getD (p1+i) 0) (fun i=>ht.getD _) 3;generalize vl t p1 3=mr at*
       have hmr:mr≤127:=by simp only[Nat.reducePow] at hmv;omega
       have HRX:=ac hr;clear hr HRR hmv;have HC:=ac C;clear C h7;obtain⟨M,hM⟩:∃ M,M=3+mr:=⟨_,rfl⟩;have hMi:(3:Int)+mr=(M:Int):=by omega
       have hM2:M≤138:=by omega
       have HM:=ac hM;rw[← hM] at HRX;clear hM;go_wp2_with fail;refine HC.out.mono ?_;rintro e w5 ⟨rfl,h8⟩;have hD:=h8.alloc (.cells #[.string sb,.int .i64 (p2:Int),.slice ao no co,.int .i64 most] 153);clear h8 d0 d1 d2 d3 HC;go_upto_region 17 with (fail)
       generalize w5.heap.size=bu at*
       generalize w5.alloc (.cells #[.string sb,.int .i64 (p2:Int),.slice ao no co,.int .i64 most] 153)=W5 at*
       have u0:=hD.cell 0 rfl;have u1:=hD.cell 1 rfl;have u2:=hD.cell 2 rfl;have u3:=hD.cell 3 rfl;have hE:=hD.perm (show _=blk b0 (.cells #[.string sb,.int .i64 (p1:Int),.slice ao no co,.int .i64 most] 153)*(blk bu (.cells #[.string sb,.int .i64 (p2:Int),.slice ao no co,.int .i64 most] 153)*(own 3 1 (.slice a all.length c) all.length (nvs all)*(blk b1 (.cells #[.string ⟨#[]⟩,.int .i64 0,.slice none 0 0,.int .i64 0] 153)*F))) by ac_rfl);have r0:=hE.cell 0 rfl;have r1:=hE.cell 1 rfl;have r2:=hE.cell 2 rfl;have r3:=hE.cell 3 rfl;have rf0:=hE.free 0;have rf1:=hE.free 1;have rf2:=hE.free 2;have rf3:=hE.free 3;have h9:=((aP hE rfl (.string sb) (.int .i64 (p2:Int)) (.slice ao no co) (.int .i64 most)).perm (show _=blk bu (.cells #[.string sb,.int .i64 (p2:Int),.slice ao no co,.int .i64 most] 153)*(own 3 1 (.slice a all.length c) all.length (nvs all)*(blk b0 (.cells #[.string sb,.int .i64 (p2:Int),.slice ao no co,.int .i64 most] 153)*(blk b1 (.cells #[.string ⟨#[]⟩,.int .i64 0,.slice none 0 0,.int .i64 0] 153)*F))) by ac_rfl)).right;have H9:=ac h9;clear hD hE h9;go_upto_region 20 with (fail)
       generalize (((W5.setCell ⟨b0,0,none⟩ (.string sb)).setCell ⟨b0,1,none⟩ (.int .i64 (p2:Int))).setCell ⟨b0,2,none⟩ (.slice ao no co)).setCell ⟨b0,3,none⟩ (.int .i64 most)=W6 at*
       clear u0 u1 u2 u3 r0 r1 r2 r3 rf0 rf1 rf2 rf3;go_wp2_with fail
       go_loopw [9,19] (fun vo vi wr=>∃ (m:Nat) (aj:Option Addr) (cj:Nat),m≤M∧vi= .int .i64 m∧vo= .slice aj (all.length+m) cj∧St w0 wr (own 3 1 (.slice aj (all.length+m) cj) (all.length+m) (nvs (all++List.replicate m 0))*(blk b0 (.cells #[.string sb,.int .i64 (p2:Int),.slice ao no co,.int .i64 most] 153)*(blk b1 (.cells #[.string ⟨#[]⟩,.int .i64 0,.slice none 0 0,.int .i64 0] 153)*F)))) (fun _ vi _=>M-(intOf vi).toNat)
       case atStart=>exact⟨0,_,_,by omega,rfl,rfl,by simpa using H9.out⟩
       case round=>
        clear H9;obtain⟨m,aj,cj,hj,rfl,rfl,hst⟩:=hrel
        by_cases hjM:m<M
        ·have hj2:(m:Int)<M:=by omega
         have HX:=ac (show nvs (all++List.replicate m 0)++[(0:Int)].map iv=nvs (all++List.replicate (m+1) 0) by rw[ft,← List.append_assoc,nvs,nvs,List.map_append (l₂:=[0])];rfl);have HST:=ac hst;clear hst;go_wp2_with (at_builtin;apply ag);refine on (aC T rfl _ _ rfl rfl (HST.out.drop_alloc (.cells #[.int .i64 (0:Int)] 3)) rfl (gH _ 0) (dS [(0:Int)]) ?_ ?_ ?_)
         ·unfold maxLen;omega
         ·omega
         intro v' w7 h9 _;rw[HX.out,ec] at h9;obtain⟨aN,cN,rfl⟩:=h9.reads.sub;have H9:=ac h9;clear h9;go_wp2_with fail
         go_roundw
         case rel=>exact⟨m+1,aN,cN,by omega,by go_num,rfl,H9.out⟩
         case measure=>simp [intOf];omega
        ·obtain rfl:m=M:=by omega
         have hl1:(all++List.replicate m 0).length=all.length+m:=by simp
         have hMp:1≤m:=by have:=HM.out;omega
         have h9:=hst;rw[← hl1] at h9;have H9:=ac h9;clear h9 hst;have HRY:=ac HRX.out;clear HRX;go_wp2_with fail
         go_roundg g
         case measure=>omega
         case rel=>exact⟨all++List.replicate m 0,aj,cj,p2,by rw[hl1],by rw[hl1];have:=HG.out;omega,by have:=HG.out;omega,by rw[hl1];omega,HRY.out,HP2.out,H9.out⟩
  ·rw[if_neg hln] at hres;have hln2:¬ (all.length:Int)<n:=by omega
   have hA:=hst.perm (af _ _ _);have c0:=hA.cell 0 rfl;have c1:=hA.cell 1 rfl;have c2:=hA.cell 2 rfl;have c3:=hA.cell 3 rfl;have hB:=hA.perm (show _=blk b1 (.cells #[.string ⟨#[]⟩,.int .i64 0,.slice none 0 0,.int .i64 0] 153)*(blk b0 (.cells #[.string sb,.int .i64 (q:Int),.slice ao no co,.int .i64 most] 153)*(own 3 1 (.slice a all.length c) all.length (nvs all)*F)) by ac_rfl);have r0:=hB.cell 0 rfl;have r1:=hB.cell 1 rfl;have r2:=hB.cell 2 rfl;have r3:=hB.cell 3 rfl;have rf0:=hB.free 0;have rf1:=hB.free 1;have rf2:=hB.free 2;have rf3:=hB.free 3;have HF:=ac (aP hB rfl (.string sb) (.int .i64 (q:Int)) (.slice ao no co) (.int .i64 most));clear hst hA hB
   by_cases hgt:n<all.length
   ·have hgt2:(n:Int)<all.length:=by omega
    rw[if_pos hgt] at hres;have HRS:=ac hres;clear hres;go_wp2_with fail;refine it rfl rfl HF.out.at_ Tryz.underlying153 rfl (by show _=some 4;kernel_rfl) rfl ?_;rw[← HRS.out];exact⟨_,3,q,rfl,⟨rfl,by decide,HF.out.right.right.right⟩,hq⟩
   ·have hgt2:¬ (n:Int)<all.length:=by omega
    rw[if_neg hgt] at hres;have HRS:=ac hres;clear hres;go_wp2_with fail;refine it rfl rfl HF.out.at_ Tryz.underlying153 rfl (by show _=some 4;kernel_rfl) rfl ?_;rw[← HRS.out];exact⟨_,0,q,rfl,⟨rfl,rfl,HF.out.right.right⟩,hq⟩
end Go.Proofs.YtboflbdniogcdaaGreatDoor
